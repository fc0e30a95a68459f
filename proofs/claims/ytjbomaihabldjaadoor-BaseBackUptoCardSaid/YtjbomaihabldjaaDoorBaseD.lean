/-
  Walks of the document's answer for layer 4: the letters, and bytes told in letters.
-/
import Derived.Test.YtjbomaihabldjaaDoorBaseC
set_option linter.unusedSimpArgs false
set_option linter.unusedVariables false
namespace Go.Cv.Base
open Go.RowKit
/-- One bit more: the value so far, how many bits it has, the letters. -/
def stepE (u : Bool) (st : Nat × Nat × List UInt8) (t : Nat) : Nat × Nat × List UInt8 :=
  if st.2.1 + 1 = 6 then (0, 0, st.2.2 ++ [L u (2 * st.1 + t)]) else (2 * st.1 + t, st.2.1 + 1, st.2.2)
def feedE (u : Bool) (b : Nat) : Nat → Nat × Nat × List UInt8 → Nat × Nat × List UInt8
  | 0, st => st
  | k + 1, st => feedE u b k (stepE u st (b / 2 ^ k % 2))
def foldE (u : Bool) : List UInt8 → Nat × Nat × List UInt8 → Nat × Nat × List UInt8
  | [], st => st
  | b :: r, st => foldE u r (feedE u b.toNat 8 st)
def finE (u : Bool) (st : Nat × Nat × List UInt8) : List UInt8 := if st.2.1 = 0 then st.2.2 else st.2.2 ++ [L u (st.1 * 2 ^ (6 - st.2.1))]
theorem pow_le32 {n : Nat} (h : n < 6) : 2 ^ n ≤ 32 := by
  have := Nat.pow_le_pow_right (show 0 < 2 by decide) (show n ≤ 5 by omega)
  simpa using this
end Go.Cv.Base
namespace Go.Proofs.YtjbomaihabldjaaDoor
open Go.RowKit Go.Cv Go.Cv.Base Go.Cv.Dig
set_option maxRecDepth 100000 in
theorem alphabet_any (u : Bool) (w : World) :
    Calls Tryd.prog 16 #[.bool u] w fun e w' => e = .returned (.string (alph u)) ∧ w' = w := by
  cases u
  all_goals
    go_enter Tryd.func16, Tryd.ntmps16
    go_wp2
    go_ret
    exact ⟨by first | rfl | decide +kernel, rfl⟩
set_option maxHeartbeats 4000000 in
theorem worth_any (u : Bool) (c : UInt8) (w : World) :
    Calls Tryd.prog 18 #[.int .u8 (n8 c), .bool u] w fun e w' => e = .returned (.int .i64 (wI u c)) ∧ w' = w := by
  have hal := alphabet_any u
  have hsz := alph_size u
  have hat := alph_at u
  have htwo := wI_two u c
  have hzc : ∀ n, n < 64 → L u n = c → wI u c = (n : Int) := fun n hn h => by subst h; exact wI_L u n hn
  generalize wI u c = z at *
  generalize alph u = al at *
  go_enter Tryd.func18, Tryd.ntmps18
  go_wp2_with (go_at_call 16; with_reducible refine (hal _).mono ?_; rintro e w ⟨rfl, rfl⟩)
  clear hal
  obtain ⟨w0, hw0⟩ : ∃ w0, w0 = w := ⟨_, rfl⟩
  subst hw0
  go_loopw [6] (fun t6 wr => ∃ i : Nat, i ≤ 64 ∧ t6 = .int .i64 i ∧ wr = w0 ∧ Hid (∀ k, k < i → L u k ≠ c)) (fun t6 _ => 64 - (intOf t6).toNat)
  case atStart => exact ⟨0, by omega, rfl, rfl, Lib.hid (fun k hk => by omega)⟩
  case round =>
    obtain ⟨i, hi, rfl, rfl, hno⟩ := hrel
    have hsz2 : (al.size : Int) = 64 := by omega
    by_cases h1 : i < 64
    · have h1' : (i : Int) < 64 := by omega
      have hz1 : 0 ≤ (i : Int) ∧ (i : Int) < (al.size : Int) := by omega
      have hia : i < al.size := by omega
      have hat2 := hat i hia
      have hz2 : 0 ≤ (i : Int) ∧ (i : Int) < 64 := by omega
      by_cases h2 : L u i = c
      · obtain rfl := hzc i h1 h2
        subst h2
        clear htwo hzc hno
        go_wp2
        go_ret
        exact ⟨rfl, rfl⟩
      · have hne : (L u i == c) = false := by simpa using h2
        have hno2 : Hid (∀ k, k < i + 1 → L u k ≠ c) := Lib.hid (fun k hk => by
          by_cases e : k = i
          · subst e; exact h2
          · exact hno.out k (by omega))
        clear htwo hzc hno h2
        go_wp2
        exact ⟨⟨i + 1, by omega, by go_num, trivial, hno2⟩, by simp [intOf]; omega⟩
    · obtain rfl : i = 64 := by omega
      have hz : Hid (z = -1) := Lib.hid (by
        rcases htwo with h | ⟨h1, h2, h3⟩
        · exact h
        · exact absurd h3 (hno.out _ (by omega)))
      clear htwo hzc hno
      go_wp2
      rw [hz.out]
      go_ret
      exact ⟨rfl, rfl⟩

set_option maxRecDepth 10000 in
set_option maxHeartbeats 8000000 in
theorem refencode_any (u : Bool) (A : Option Addr) (n cap : Nat) (l : List UInt8) (w : World) (hl : l.length = n) (hr : Rd w A (l.map bv)) (bnd : n ≤ 2000000) :
    Calls Tryd.prog 9 #[.slice A n cap, .bool u] w fun e w' => e = .returned (.string ⟨(finE u (foldE u l (0, 0, []))).toArray⟩) ∧ Ext w w' := by
  have hal := alphabet_any u
  have hsz := alph_size u
  have hat := alph_at u
  generalize hgg : alph u = al at *
  go_enter Tryd.func9, Tryd.ntmps9
  go_wp2_with (go_at_call 16; with_reducible refine (hal _).mono ?_; rintro e w ⟨rfl, rfl⟩)
  clear hal
  obtain ⟨w0, hw0⟩ : ∃ w0, w0 = w := ⟨_, rfl⟩
  subst hw0
  have hsz2 : (al.size : Int) = 64 := by omega
  have HN := Lib.hid hl
  go_loopw [6, 7, 8, 9] (fun t6 t7 t8 t9 wr => ∃ (i v b : Nat) (out : List UInt8), i ≤ n ∧ t9 = .int .i64 i ∧ t7 = .int .i64 v ∧ t8 = .int .i64 b ∧ OwnB wr w0.heap.size t6 out ∧ 3 * out.length ≤ 4 * i ∧ b < 6 ∧ Hid (v < 2 ^ b) ∧ Hid (6 * out.length + b = 8 * i) ∧ Hid (foldE u (l.drop i) (v, b, out) = foldE u l (0, 0, [])) ∧ Ext w0 wr) (fun _ _ _ t9 _ => n - (intOf t9).toNat)
  case atStart => exact ⟨0, 0, 0, [], by omega, rfl, rfl, rfl, World.ownsRow_nil _ _ _ 1, by simp, by decide, Lib.hid (by decide), Lib.hid rfl, Lib.hid rfl, Ext.refl _⟩
  case round =>
    obtain ⟨i, v, b, out, hin, rfl, rfl, rfl, hO, hol, hb6, hv, hsum, hf, hE⟩ := hrel
    by_cases h1 : i < n
    · have h1' : (i : Int) < (n : Int) := by omega
      have hil : i < l.length := by rw [HN.out]; exact h1
      have hdr : l.drop i = l[i] :: l.drop (i + 1) := List.drop_eq_getElem_cons hil
      have hf2 := hf.out
      rw [hdr] at hf2
      replace hf2 : foldE u (l.drop (i + 1)) (feedE u (l[i]'hil).toNat 8 (v, b, out)) = foldE u l (0, 0, []) := hf2
      obtain ⟨ad, rfl, hcell⟩ := hr.at_ (k := i) (by rw [List.length_map]; exact hil)
      rw [List.getElem_map] at hcell
      obtain ⟨tgt, htgt⟩ : ∃ tgt, tgt = feedE u (l[i]'hil).toNat 8 (v, b, out) := ⟨_, rfl⟩
      rw [← htgt] at hf2
      generalize l[i]'hil = x at *
      have hx8 := x.toNat_lt
      have hfx := Lib.hid hf2
      have htx := Lib.hid htgt
      have hs8 := hsum.out
      clear hf hf2 htgt hdr hl
      obtain ⟨S, hS⟩ : ∃ S, S = 6 * out.length + b + 8 := ⟨_, rfl⟩
      go_wp2
      go_loopw [6, 7, 8, 10] (fun t6 t7 t8 t10 wr => ∃ (K v b : Nat) (out : List UInt8) (e : Int), K ≤ 8 ∧ t10 = .int .i64 e ∧ e + 1 = (K : Int) ∧ t7 = .int .i64 v ∧ t8 = .int .i64 b ∧ OwnB wr w0.heap.size t6 out ∧ b < 6 ∧ Hid (v < 2 ^ b) ∧ Hid (6 * out.length + b + K = S) ∧ Hid (feedE u x.toNat K (v, b, out) = tgt) ∧ Ext w0 wr) (fun _ _ _ t10 _ => (intOf t10 + 1).toNat)
      case atStart => exact ⟨8, v, b, out, 7, by omega, rfl, by omega, rfl, rfl, hO, hb6, hv, Lib.hid (by omega), Lib.hid htx.out.symm, hE⟩
      case round =>
        obtain ⟨K, v, b, out, e, hK, rfl, he, rfl, rfl, hO, hb6, hv, hsum2, hf, hE1⟩ := hrel
        rcases K with _ | k
        · obtain rfl : e = -1 := by omega
          have ht : (v, b, out) = tgt := hf.out
          have hfy : Hid (foldE u (l.drop (i + 1)) (v, b, out) = foldE u l (0, 0, [])) := Lib.hid (by rw [ht]; exact hfx.out)
          have hs3 := hsum2.out
          clear hf hfx htx ht
          go_wp2
          exact ⟨⟨i + 1, v, b, out, by omega, by go_num, rfl, rfl, hO, by omega, hb6, hv, Lib.hid (by omega), hfy, hE1⟩, by simp [intOf]; omega⟩
        · obtain rfl : e = (k : Int) := by omega
          have hv32 : v < 32 := Nat.lt_of_lt_of_le hv.out (pow_le32 hb6)
          obtain ⟨t, ht⟩ : ∃ t, t = x.toNat / 2 ^ k % 2 := ⟨_, rfl⟩
          have ht2 : t < 2 := by omega
          have hbit : bits .and .i64 (n8 x / 2 ^ k) 1 = (t : Int) := by
            have h := and_mod (x.toNat / 2 ^ k) 1 (by decide) (by have := Nat.div_le_self x.toNat (2 ^ k); omega)
            rw [ht]
            show bits .and .i64 ((x.toNat : Int) / 2 ^ k) 1 = _
            rw [show ((x.toNat : Int) / 2 ^ k) = ((x.toNat / 2 ^ k : Nat) : Int) from by simp]
            exact h
          have hk64 : (k : Int) ≤ 64 := by omega
          have hk0 : 0 ≤ (k : Int) := by omega
          have hst := hf.out
          rw [show feedE u x.toNat (k + 1) (v, b, out) = feedE u x.toNat k (stepE u (v, b, out) (x.toNat / 2 ^ k % 2)) from rfl, ← ht] at hst
          have hcell1 := Ext.cell hE1 hcell
          have hz : 2 * (v : Int) + (t : Int) = ((2 * v + t : Nat) : Int) := by omega
          have hzlt : 2 * v + t < 2 ^ (b + 1) := by have := hv.out; rw [Nat.pow_succ]; omega
          have hs3 := hsum2.out
          clear hf hv ht
          by_cases h5 : b = 5
          · obtain rfl : b = 5 := h5
            have hst2 : Hid (feedE u x.toNat k (0, 0, out ++ [L u (2 * v + t)]) = tgt) := Lib.hid hst
            generalize hzz : 2 * v + t = z at *
            have hz64 : z < 64 := by omega
            have hidx : 0 ≤ (z : Int) ∧ (z : Int) < 64 := by omega
            have hidx2 : z < al.size := by omega
            have hO2 := hO
            unfold OwnB at hO2
            obtain ⟨C, cc, rfl, hnc, hcm, hrd, -⟩ := own_form hO2
            generalize hol3 : out.length = q at *
            clear hst hzlt hzz hsum2
            go_wp2_with (at_builtin; refine wpList_appb rfl (.tmp 38) (.tmp 42) 22 5 rfl u8rowU w0.heap.size _ q _ rfl (own_ext hO2 (ext_alloc _ _)) (some _) 1 1 [L u z] rfl rfl (rd_new_list _ _ _) (by omega) (by have := hE1.size; simp; omega) ?_; intro A4 c4 w4 ho4 hc4 hm4 hr4 hE4; have hx4 := hE4 w0 (hE1.trans (ext_alloc _ _)) (Nat.le_refl _); clear hE4)
            refine ⟨⟨k, 0, 0, out ++ [L u z], (k : Int) - 1, by omega, rfl, by omega, rfl, rfl, ?_, by decide, Lib.hid (by decide), Lib.hid (by simp; omega), hst2, hx4⟩, by simp [intOf]⟩
            unfold OwnB
            rw [List.length_append, hol3]
            exact ho4
          · have hne6 : ¬ (b : Int) + 1 = 6 := by omega
            have hst2 : Hid (feedE u x.toNat k (2 * v + t, b + 1, out) = tgt) := Lib.hid (by
              rw [← hst]
              unfold stepE
              rw [if_neg (show ¬ b + 1 = 6 from by omega)])
            have hzl := Lib.hid hzlt
            generalize hzz : 2 * v + t = z at *
            clear hst hzlt hzz hsum2
            go_wp2
            exact ⟨⟨k, z, b + 1, out, (k : Int) - 1, by omega, rfl, by omega, rfl, by go_num, hO, by omega, hzl, Lib.hid (by omega), hst2, hE1⟩, by simp [intOf]⟩
    · obtain rfl : i = n := by omega
      have hff : Hid ((v, b, out) = foldE u l (0, 0, [])) := Lib.hid (by
        have := hf.out
        rw [List.drop_of_length_le (by rw [HN.out]; omega)] at this
        exact this)
      clear hf hl
      by_cases hb0 : b = 0
      · obtain rfl : b = 0 := hb0
        have hfin : Hid (out = finE u (foldE u l (0, 0, []))) := Lib.hid (by rw [← hff.out]; rfl)
        have hO2 := hO
        unfold OwnB at hO2
        obtain ⟨C, cc, rfl, hnc, hcm, hrd, -⟩ := own_form hO2
        have hcv := run_convert_rd (P := Tryd.prog) wr 22 9 5 Tryd.underlying22 Tryd.underlying5 Tryd.underlying9 C _ cc out rfl hrd
        clear hff hsum hv
        generalize out.length = q at *
        go_wp2
        rw [hfin.out]
        go_ret
        exact ⟨rfl, hE⟩
      · have hb0' : (0 : Int) < (b : Int) := by omega
        obtain ⟨V, hV⟩ : ∃ V, V = v * 2 ^ (6 - b) := ⟨_, rfl⟩
        have hfin : Hid (out ++ [L u V] = finE u (foldE u l (0, 0, []))) := Lib.hid (by
          rw [← hff.out, hV]
          unfold finE
          rw [if_neg hb0])
        have hVx := Lib.hid hV
        clear hff hsum hV
        go_wp2
        go_loopw [7, 8] (fun t7 t8 wz => ∃ (v b : Nat), t7 = .int .i64 v ∧ t8 = .int .i64 b ∧ 0 < b ∧ b ≤ 6 ∧ Hid (v < 2 ^ b) ∧ Hid (V = v * 2 ^ (6 - b)) ∧ wz = wr) (fun _ t8 _ => 6 - (intOf t8).toNat)
        case atStart => exact ⟨v, b, rfl, rfl, by omega, by omega, hv, hVx, rfl⟩
        case round =>
          obtain ⟨v, b, rfl, rfl, hb1, hb2, hv, hVx, rfl⟩ := hrel
          by_cases hb6 : b = 6
          · obtain rfl : b = 6 := hb6
            obtain rfl : V = v := by have := hVx.out; simpa using this
            have hz64 : V < 64 := hv.out
            have hidx : 0 ≤ (V : Int) ∧ (V : Int) < 64 := by omega
            have hidx2 : V < al.size := by omega
            have hO2 := hO
            unfold OwnB at hO2
            obtain ⟨C, cc, rfl, hnc, hcm, hrd, -⟩ := own_form hO2
            generalize hol3 : out.length = q at *
            have hcv := fun A4 c4 w4 hr4 => run_convert_rd (P := Tryd.prog) w4 22 9 5 Tryd.underlying22 Tryd.underlying5 Tryd.underlying9 A4 (q + 1) c4 (out ++ [L u V]) (by simp [hol3]) hr4
            go_wp2_with (at_builtin; refine wpList_appb rfl (.tmp 52) (.tmp 56) 22 5 rfl u8rowU w0.heap.size _ q _ rfl (own_ext hO2 (ext_alloc _ _)) (some _) 1 1 [L u V] rfl rfl (rd_new_list _ _ _) (by omega) (by have := hE.size; simp; omega) ?_; intro A4 c4 w4 ho4 hc4 hm4 hr4 hE4; have hx4 := hE4 w0 (hE.trans (ext_alloc _ _)) (Nat.le_refl _); clear hE4; replace hcv := hcv A4 c4 w4 hr4)
            rw [hfin.out]
            go_ret
            exact ⟨rfl, hx4⟩
          · have hb6' : (b : Int) < 6 := by omega
            have hv32 : v < 32 := Nat.lt_of_lt_of_le hv.out (pow_le32 (by omega))
            have hv2 : Hid (2 * v < 2 ^ (b + 1)) := Lib.hid (by have := hv.out; rw [Nat.pow_succ]; omega)
            have hV2 : Hid (V = 2 * v * 2 ^ (6 - (b + 1))) := Lib.hid (by
              rw [hVx.out, show 6 - b = (6 - (b + 1)) + 1 from by omega, Nat.pow_succ, Nat.mul_comm 2 v, Nat.mul_assoc, Nat.mul_comm 2])
            clear hv hVx
            go_wp2
            exact ⟨⟨2 * v, b + 1, by go_num, by go_num, by omega, by omega, hv2, hV2, trivial⟩, by simp [intOf]; omega⟩
end Go.Proofs.YtjbomaihabldjaaDoor
