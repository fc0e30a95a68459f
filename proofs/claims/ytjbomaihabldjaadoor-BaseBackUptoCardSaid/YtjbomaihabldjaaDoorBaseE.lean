/-
  Walks of the document's answer for layer 4: a text read as bytes; two rows of bytes alike.
-/
import Derived.Test.YtjbomaihabldjaaDoorBaseD
import Derived.BigQuiet
set_option linter.unusedSimpArgs false
set_option linter.unusedVariables false
namespace Go.Cv.Base
open Go.RowKit
/-- One bit more. -/
def stepD (st : Nat × Nat × List UInt8) (t : Nat) : Nat × Nat × List UInt8 :=
  if st.2.1 + 1 = 8 then (0, 0, st.2.2 ++ [u8 ((2 * st.1 + t : Nat) : Int)]) else (2 * st.1 + t, st.2.1 + 1, st.2.2)
def feedD (b : Nat) : Nat → Nat × Nat × List UInt8 → Nat × Nat × List UInt8
  | 0, st => st
  | k + 1, st => feedD b k (stepD st (b / 2 ^ k % 2))
def foldD : List Nat → Nat × Nat × List UInt8 → Nat × Nat × List UInt8
  | [], st => st
  | b :: r, st => foldD r (feedD b 6 st)
theorem pow_le128 {n : Nat} (h : n < 8) : 2 ^ n ≤ 128 := by
  have := Nat.pow_le_pow_right (show 0 < 2 by decide) (show n ≤ 7 by omega)
  simpa using this
end Go.Cv.Base
namespace Go.Proofs.YtjbomaihabldjaaDoor
open Go.RowKit Go.Cv Go.Cv.Base Go.Cv.Dig
set_option maxHeartbeats 4000000 in
theorem same_any (A : Option Addr) (n c : Nat) (l : List UInt8) (B : Option Addr) (m d : Nat) (k : List UInt8) (w : World) (hl : l.length = n) (hr : Rd w A (l.map bv)) (hk : k.length = m) (hr2 : Rd w B (k.map bv)) (bnd : n ≤ 5000000) :
    Calls Tryd.prog 8 #[.slice A n c, .slice B m d] w fun e w' => e = .returned (.bool (decide (l = k))) ∧ Ext w w' := by
  by_cases hnm : n = m
  · subst hnm
    have HN := Lib.hid hl
    have HM := Lib.hid hk
    obtain ⟨r, hres⟩ : ∃ r, r = decide (l = k) := ⟨_, rfl⟩
    rw [← hres]
    have hrx := Lib.hid hres
    clear hl hk hres
    go_enter Tryd.func8, Tryd.ntmps8
    go_wp2
    go_loopw [5] (fun t wr => ∃ i : Nat, i ≤ n ∧ t = .int .i64 i ∧ Hid (l.take i = k.take i) ∧ Ext w wr) (fun t _ => n - (intOf t).toNat)
    case atStart => exact ⟨0, by omega, rfl, Lib.hid rfl, Ext.refl _⟩
    case round =>
      obtain ⟨i, hin, rfl, htk, hE⟩ := hrel
      by_cases h1 : i < n
      · have h1' : (i : Int) < (n : Int) := by omega
        have hil : i < l.length := by rw [HN.out]; exact h1
        have hik : i < k.length := by rw [HM.out]; exact h1
        obtain ⟨ad, rfl, hcell⟩ := (hr.ext hE).at_ (k := i) (by rw [List.length_map]; exact hil)
        obtain ⟨bd, rfl, hcell2⟩ := (hr2.ext hE).at_ (k := i) (by rw [List.length_map]; exact hik)
        rw [List.getElem_map] at hcell hcell2
        have ht1 : l.take (i + 1) = l.take i ++ [l[i]] := List.take_succ_eq_append_getElem hil
        have ht2 : k.take (i + 1) = k.take i ++ [k[i]] := List.take_succ_eq_append_getElem hik
        have hne : l[i] ≠ k[i] → l ≠ k := fun h e => h (by subst e; rfl)
        have hht1 := Lib.hid ht1
        have hht2 := Lib.hid ht2
        clear ht1 ht2
        generalize l[i]'hil = x at *
        generalize k[i]'hik = y at *
        obtain ⟨xg, rfl⟩ := grw_of_ext hE
        clear hE
        by_cases hxy : x = y
        · subst hxy
          have htk2 : Hid (l.take (i + 1) = k.take (i + 1)) := Lib.hid (by rw [hht1.out, hht2.out, htk.out])
          clear hne hht1 hht2 htk
          go_wp2
          go_quiet (fail)
          go_wp2
          exact ⟨⟨i + 1, by omega, by go_num, htk2, (by (repeat (first | exact grw_ext _ _ | exact Ext.refl _ | refine Ext.drewN ?_ _ | refine Ext.trans ?_ (ext_drew _))))⟩, by simp [intOf]; omega⟩
        · have hb : (x != y) = true := by simpa using hxy
          have hf : Hid (r = false) := Lib.hid (by rw [hrx.out]; exact decide_eq_false (hne hxy))
          clear hne hht1 hht2 htk
          go_wp2
          go_quiet (fail)
          go_wp2
          rw [hf.out]
          go_ret
          exact ⟨rfl, (by (repeat (first | exact grw_ext _ _ | exact Ext.refl _ | refine Ext.drewN ?_ _ | refine Ext.trans ?_ (ext_drew _))))⟩
      · obtain rfl : i = n := by omega
        have hf : Hid (r = true) := Lib.hid (by
          rw [hrx.out]
          have := htk.out
          rw [List.take_of_length_le (by rw [HN.out]; omega), List.take_of_length_le (by rw [HM.out]; omega)] at this
          exact decide_eq_true this)
        clear htk
        go_wp2
        rw [hf.out]
        go_ret
        exact ⟨rfl, hE⟩
  · have hne : ¬ l = k := fun e => hnm (by rw [← hl, ← hk, e])
    rw [decide_eq_false hne]
    have hnm' : ¬ (n : Int) = (m : Int) := by omega
    clear hl hk hne hr hr2
    go_enter Tryd.func8, Tryd.ntmps8
    go_wp2
    go_ret
    exact ⟨rfl, Ext.refl _⟩

set_option maxHeartbeats 4000000 in
theorem refdec_bad (u : Bool) (s : ByteArray) (m : Nat) (w : World) (hm : m < s.size) (hok : ∀ i, (hi : i < m) → 0 ≤ wI u (s[i]'(by omega))) (hbad : wI u (s[m]'hm) = -1) (bnd : s.size ≤ 5000000) :
    Calls Tryd.prog 11 #[.string s, .bool u] w fun e w' => e = .returned (.tuple #[.slice none 0 0, .int .i64 (m : Int)]) ∧ Ext w w' := by
  have hwo := worth_any u
  go_enter Tryd.func11, Tryd.ntmps11
  go_wp2
  go_loopw [6] (fun t6 wr => ∃ i : Nat, i ≤ m ∧ t6 = .int .i64 i ∧ wr = w) (fun t6 _ => s.size - (intOf t6).toNat)
  case atStart => exact ⟨0, by omega, rfl, rfl⟩
  case round =>
    obtain ⟨i, him, rfl, rfl⟩ := hrel
    have his : i < s.size := by omega
    have hpi : (i : Int) < (s.size : Int) := by omega
    have hpz : 0 ≤ (i : Int) ∧ (i : Int) < (s.size : Int) := by omega
    have hw := hwo (s[i]'his)
    by_cases h1 : i < m
    · have hx := hok i h1
      generalize wI u (s[i]'his) = x at *
      have hx' : ¬ x < 0 := by omega
      clear hok hbad
      go_wp2_with (go_at_call 18; with_reducible refine (hw _).mono ?_; rintro e w2 ⟨rfl, rfl⟩)
      exact ⟨⟨i + 1, by omega, by go_num, trivial⟩, by simp [intOf]; omega⟩
    · obtain rfl : i = m := by omega
      rw [hbad] at hw
      clear hok hbad
      go_wp2_with (go_at_call 18; with_reducible refine (hw _).mono ?_; rintro e w2 ⟨rfl, rfl⟩)
      go_ret2
      exact ⟨rfl, Ext.refl _⟩

/-- What the answer gives, if all are letters. -/
def RefDec (u : Bool) (s : ByteArray) (w : World) (e : Ending) (w' : World) : Prop :=
  (s.size % 4 ≠ 1 ∧ (foldD (vals u s) (0, 0, [])).1 = 0 ∧ ∃ v, e = .returned (.tuple #[v, .int .i64 (-1)]) ∧ BytesV w' v (foldD (vals u s) (0, 0, [])).2.2 ∧ Ext w w') ∨
  ((s.size % 4 = 1 ∨ (foldD (vals u s) (0, 0, [])).1 ≠ 0) ∧ e = .returned (.tuple #[.slice none 0 0, .int .i64 ((s.size : Int) - 1)]) ∧ Ext w w')
set_option maxRecDepth 10000 in
set_option maxHeartbeats 8000000 in
theorem refdec_ok (u : Bool) (s : ByteArray) (w : World) (hok : ∀ i, (h : i < s.size) → 0 ≤ wI u (s[i]'h)) (bnd : s.size ≤ 5000000) :
    Calls Tryd.prog 11 #[.string s, .bool u] w fun e w' => RefDec u s w e w' := by
  have hwo := worth_any u
  go_enter Tryd.func11, Tryd.ntmps11
  go_wp2
  go_loopw [6] (fun t6 wr => ∃ i : Nat, i ≤ s.size ∧ t6 = .int .i64 i ∧ wr = w) (fun t6 _ => s.size - (intOf t6).toNat)
  case atStart => exact ⟨0, by omega, rfl, rfl⟩
  case round =>
    obtain ⟨i, him, rfl, hwr⟩ := hrel
    subst hwr
    by_cases his : i < s.size
    · have hpi : (i : Int) < (s.size : Int) := by omega
      have hpz : 0 ≤ (i : Int) ∧ (i : Int) < (s.size : Int) := by omega
      have hw := hwo (s[i]'his)
      have hx := hok i his
      generalize wI u (s[i]'his) = x at *
      have hx' : ¬ x < 0 := by omega
      clear hok
      go_wp2_with (go_at_call 18; with_reducible refine (hw _).mono ?_; rintro e w2 ⟨rfl, rfl⟩)
      exact ⟨⟨i + 1, by omega, by go_num, trivial⟩, by simp [intOf]; omega⟩
    · have hpi : ¬ (i : Int) < (s.size : Int) := by omega
      obtain rfl : i = s.size := by omega
      by_cases h41 : s.size % 4 = 1
      · have h41' : (s.size : Int).tmod 4 = 1 := by rw [Int.tmod_eq_emod_of_nonneg (by omega)]; omega
        clear hok hwo
        go_wp2
        go_ret2
        exact .inr ⟨.inl h41, rfl, Ext.refl _⟩
      · have h41' : ¬ (s.size : Int).tmod 4 = 1 := by rw [Int.tmod_eq_emod_of_nonneg (by omega)]; omega
        obtain ⟨w0, hw0⟩ : ∃ w0, w0 = wr := ⟨_, rfl⟩
        subst hw0
        go_wp2
        go_loopw [7, 8, 9, 10] (fun t7 t8 t9 t10 wr => ∃ (i v b : Nat) (out : List UInt8), i ≤ s.size ∧ t10 = .int .i64 i ∧ t8 = .int .i64 v ∧ t9 = .int .i64 b ∧ OwnB wr w0.heap.size t7 out ∧ 4 * out.length ≤ 3 * i ∧ b < 8 ∧ Hid (v < 2 ^ b) ∧ Hid (8 * out.length + b = 6 * i) ∧ Hid (foldD ((vals u s).drop i) (v, b, out) = foldD (vals u s) (0, 0, [])) ∧ Ext w0 wr) (fun _ _ _ t10 _ => s.size - (intOf t10).toNat)
        case atStart => exact ⟨0, 0, 0, [], by omega, rfl, rfl, rfl, World.ownsRow_nil _ _ _ 1, by simp, by decide, Lib.hid (by decide), Lib.hid rfl, Lib.hid rfl, Ext.refl _⟩
        case round =>
          obtain ⟨i, v, b, out, hin, rfl, rfl, rfl, hO, hol, hb6, hv, hsum, hf, hE⟩ := hrel
          by_cases his : i < s.size
          · have hpi : (i : Int) < (s.size : Int) := by omega
            have hpz : 0 ≤ (i : Int) ∧ (i : Int) < (s.size : Int) := by omega
            have hw := hwo (s[i]'his)
            have hx0 := hok i his
            have hw64 : wI u (s[i]'his) < 64 := by rcases wI_two u (s[i]'his) with h | h <;> omega
            obtain ⟨x, hx⟩ : ∃ x : Nat, wI u (s[i]'his) = (x : Int) := ⟨_, (Int.toNat_of_nonneg hx0).symm⟩
            have hWx : W u (s[i]'his) = x := by unfold W; rw [hx]; rfl
            have hf2 := hf.out
            rw [vals_drop u s i his, hWx] at hf2
            replace hf2 : foldD ((vals u s).drop (i + 1)) (feedD x 6 (v, b, out)) = foldD (vals u s) (0, 0, []) := hf2
            obtain ⟨tgt, htgt⟩ : ∃ tgt, tgt = feedD x 6 (v, b, out) := ⟨_, rfl⟩
            rw [← htgt] at hf2
            have hx8 : x < 64 := by omega
            rw [hx] at hw
            have hfx := Lib.hid hf2
            have htx := Lib.hid htgt
            have hs8 := hsum.out
            clear hf hf2 htgt hwo hok hx hx0 hw64 hWx
            obtain ⟨S, hS⟩ : ∃ S, S = 8 * out.length + b + 6 := ⟨_, rfl⟩
            go_wp2_with (go_at_call 18; with_reducible refine (hw _).mono ?_; rintro e wr ⟨rfl, rfl⟩)
            go_loopw [7, 8, 9, 12] (fun t7 t8 t9 t12 wr => ∃ (K v b : Nat) (out : List UInt8) (e : Int), K ≤ 6 ∧ t12 = .int .i64 e ∧ e + 1 = (K : Int) ∧ t8 = .int .i64 v ∧ t9 = .int .i64 b ∧ OwnB wr w0.heap.size t7 out ∧ b < 8 ∧ Hid (v < 2 ^ b) ∧ Hid (8 * out.length + b + K = S) ∧ Hid (feedD x K (v, b, out) = tgt) ∧ Ext w0 wr) (fun _ _ _ t12 _ => (intOf t12 + 1).toNat)
            case atStart => exact ⟨6, v, b, out, 5, by omega, rfl, by omega, rfl, rfl, hO, hb6, hv, Lib.hid (by omega), Lib.hid htx.out.symm, hE⟩
            case round =>
              obtain ⟨K, v, b, out, e, hK, rfl, he, rfl, rfl, hO, hb6, hv, hsum2, hf, hE1⟩ := hrel
              rcases K with _ | k
              · obtain rfl : e = -1 := by omega
                have ht : (v, b, out) = tgt := hf.out
                have hfy : Hid (foldD ((vals u s).drop (i + 1)) (v, b, out) = foldD (vals u s) (0, 0, [])) := Lib.hid (by rw [ht]; exact hfx.out)
                have hs3 := hsum2.out
                clear hf hfx htx ht
                go_wp2
                exact ⟨⟨i + 1, v, b, out, by omega, by go_num, rfl, rfl, hO, by omega, hb6, hv, Lib.hid (by omega), hfy, hE1⟩, by simp [intOf]; omega⟩
              · obtain rfl : e = (k : Int) := by omega
                have hv32 : v < 128 := Nat.lt_of_lt_of_le hv.out (pow_le128 hb6)
                obtain ⟨t, ht⟩ : ∃ t, t = x / 2 ^ k % 2 := ⟨_, rfl⟩
                have ht2 : t < 2 := by omega
                have hbit : bits .and .i64 ((x : Int) / 2 ^ k) 1 = (t : Int) := by
                  have h := and_mod (x / 2 ^ k) 1 (by decide) (by have := Nat.div_le_self x (2 ^ k); omega)
                  rw [ht, show ((x : Int) / 2 ^ k) = ((x / 2 ^ k : Nat) : Int) from by simp]
                  exact h
                have hk64 : (k : Int) ≤ 64 := by omega
                have hk0 : 0 ≤ (k : Int) := by omega
                have hst := hf.out
                rw [show feedD x (k + 1) (v, b, out) = feedD x k (stepD (v, b, out) (x / 2 ^ k % 2)) from rfl, ← ht] at hst
                have hz : 2 * (v : Int) + (t : Int) = ((2 * v + t : Nat) : Int) := by omega
                have hzlt : 2 * v + t < 2 ^ (b + 1) := by have := hv.out; rw [Nat.pow_succ]; omega
                have hs3 := hsum2.out
                clear hf hv ht
                by_cases h5 : b = 7
                · obtain rfl : b = 7 := h5
                  have hst2 : Hid (feedD x k (0, 0, out ++ [u8 ((2 * v + t : Nat) : Int)]) = tgt) := Lib.hid hst
                  generalize hzz : 2 * v + t = z at *
                  have hO2 := hO
                  unfold OwnB at hO2
                  obtain ⟨C, cc, rfl, hnc, hcm, hrd, -⟩ := own_form hO2
                  generalize hol3 : out.length = q at *
                  clear hst hzlt hzz hsum2
                  go_wp2_with (at_builtin; refine wpList_appb rfl (.tmp 59) (.tmp 62) 22 5 rfl u8rowU w0.heap.size _ q _ rfl (own_ext hO2 (ext_alloc _ _)) (some _) 1 1 [u8 (z : Int)] rfl rfl (rd_new_list _ _ _) (by omega) (by have := hE1.size; simp; omega) ?_; intro A4 c4 w4 ho4 hc4 hm4 hr4 hE4; have hx4 := hE4 w0 (hE1.trans (ext_alloc _ _)) (Nat.le_refl _); clear hE4)
                  refine ⟨⟨k, 0, 0, out ++ [u8 (z : Int)], (k : Int) - 1, by omega, rfl, by omega, rfl, rfl, ?_, by decide, Lib.hid (by decide), Lib.hid (by simp; omega), hst2, hx4⟩, by simp [intOf]⟩
                  unfold OwnB
                  rw [List.length_append, hol3]
                  exact ho4
                · have hne6 : ¬ (b : Int) + 1 = 8 := by omega
                  have hst2 : Hid (feedD x k (2 * v + t, b + 1, out) = tgt) := Lib.hid (by
                    rw [← hst]
                    unfold stepD
                    rw [if_neg (show ¬ b + 1 = 8 from by omega)])
                  have hzl := Lib.hid hzlt
                  generalize hzz : 2 * v + t = z at *
                  clear hst hzlt hzz hsum2
                  go_wp2
                  exact ⟨⟨k, z, b + 1, out, (k : Int) - 1, by omega, rfl, by omega, rfl, by go_num, hO, by omega, hzl, Lib.hid (by omega), hst2, hE1⟩, by simp [intOf]⟩
          · have hpi : ¬ (i : Int) < (s.size : Int) := by omega
            obtain rfl : i = s.size := by omega
            have hff : Hid ((v, b, out) = foldD (vals u s) (0, 0, [])) := Lib.hid (by
              have := hf.out
              rw [vals_end u s _ his] at this
              exact this)
            have hO2 := hO
            unfold OwnB at hO2
            obtain ⟨C, cc, rfl, hnc, hcm, hrd, -⟩ := own_form hO2
            clear hf hwo hok hsum hv
            by_cases hv0 : v = 0
            · subst hv0
              generalize hol3 : out.length = q at *
              go_wp2
              go_ret2
              exact .inl ⟨h41, by rw [← hff.out], _, rfl, ⟨C, q, cc, rfl, by rw [← hff.out]; exact hol3, hnc, by rw [← hff.out]; exact hrd⟩, hE⟩
            · have hv0' : ¬ (v : Int) = 0 := by omega
              generalize hol3 : out.length = q at *
              go_wp2
              go_ret2
              exact .inr ⟨.inr (by rw [← hff.out]; exact hv0), rfl, hE⟩
end Go.Proofs.YtjbomaihabldjaaDoor
