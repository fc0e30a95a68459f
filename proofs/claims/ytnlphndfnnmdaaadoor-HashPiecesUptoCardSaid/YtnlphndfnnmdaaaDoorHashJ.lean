/-
  However a text is cut: the statement HashCuts.
-/
import Derived.Test.YtnlphndfnnmdaaaDoorHashI
import Derived.Test.YtnlphndfnnmdaaaDoorArgs
set_option linter.unusedSimpArgs false
set_option linter.unusedVariables false
namespace Go.Proofs.YtnlphndfnnmdaaaDoor
open Go.RowKit Go.Cv Go.Cv.Hash Go.Cv.Dig
theorem Hs.ne_row {w : World} {B b m : Nat} {wide : Bool} {l : List UInt8} {T : TypeId} {cs : List Value} (h : Hs w B b wide l) (hr : Row w m T cs) (hT : T ≠ 56) : m ≠ b := fun e => by
  obtain ⟨_, v, hb, _⟩ := h
  unfold Row at hr
  rw [e, hb] at hr
  simp only [Option.some.injEq, Obj.cells.injEq] at hr
  exact hT hr.2.1.symm
theorem Hs.drew {w : World} {B b : Nat} {wide : Bool} {l : List UInt8} (h : Hs w B b wide l) : Hs w.drew B b wide l := h
theorem rowrd32 {w : World} {b : Nat} {T : TypeId} {l : List UInt8} (h : Row w b T (l.map bv)) : Rd w (some ⟨b, 0, none⟩) (l.map bv) := by simpa using Rd.ofRow32 h 0
theorem hsame32 (d : List UInt8) (hd : d.length = 32) (a b : Nat) (w : World) (h1 : Rd w (some ⟨a, 0, none⟩) (d.map bv)) (h2 : Rd w (some ⟨b, 0, none⟩) (d.map bv)) :
    Calls Tryd.prog 9 #[.slice (some ⟨a, 0, none⟩) 32 32, .slice (some ⟨b, 0, none⟩) 32 32] w fun e w' => e = .returned (.bool true) ∧ Ext w w' := by
  have h := same_any (some ⟨a, 0, none⟩) 32 32 d (some ⟨b, 0, none⟩) 32 32 d w hd h1 hd h2 (by decide)
  rwa [decide_eq_true rfl] at h
theorem rowrd64 {w : World} {b : Nat} {T : TypeId} {l : List UInt8} (h : Row w b T (l.map bv)) : Rd w (some ⟨b, 0, none⟩) (l.map bv) := by simpa using Rd.ofRow32 h 0
theorem hsame64 (d : List UInt8) (hd : d.length = 64) (a b : Nat) (w : World) (h1 : Rd w (some ⟨a, 0, none⟩) (d.map bv)) (h2 : Rd w (some ⟨b, 0, none⟩) (d.map bv)) :
    Calls Tryd.prog 9 #[.slice (some ⟨a, 0, none⟩) 64 64, .slice (some ⟨b, 0, none⟩) 64 64] w fun e w' => e = .returned (.bool true) ∧ Ext w w' := by
  have h := same_any (some ⟨a, 0, none⟩) 64 64 d (some ⟨b, 0, none⟩) 64 64 d w hd h1 hd h2 (by decide)
  rwa [decide_eq_true rfl] at h
set_option maxRecDepth 20000 in
set_option maxHeartbeats 16000000 in
theorem cuts_any (A : Option Addr) (n cap : Nat) (l : List UInt8) (x1 x2 : Int) (w : World) (hT : Tabs w) (hl : ArgB w A n cap l) (bnd : cap ≤ 1048576) :
    Calls Tryd.prog 5 #[.slice A n cap, .int .i64 x1, .int .i64 x2] w fun e w' => e = .returned (.bool true) ∧ Ext w w' := by
  have hs := shown_any w hT
  have hle := hl.le
  have hlen := hl.len
  have hr := hl.rd
  clear hl
  have hN2 : (n : Int) / 2 = ((n / 2 : Nat) : Int) := by omega
  have hN3 : (n : Int).tdiv 2 = ((n / 2 : Nat) : Int) := by rw [Int.tdiv_eq_ediv_of_nonneg (by omega)]; omega
  obtain ⟨hf, hhf⟩ : ∃ hf, hf = n / 2 := ⟨_, rfl⟩
  rw [← hhf] at hN2 hN3
  have hfn : hf ≤ n := by omega
  clear hhf
  rcases (by omega : (x1 < 0) ∨ (¬ x1 < 0 ∧ (n : Int) < x1) ∨ (¬ x1 < 0 ∧ ¬ (n : Int) < x1)) with c1 | ⟨c1, c1'⟩ | ⟨c1, c1'⟩
  · have hin : hf ≤ n := by omega
    rcases (by omega : (x2 < (hf : Int)) ∨ (¬ x2 < (hf : Int) ∧ (n : Int) < x2) ∨ (¬ x2 < (hf : Int) ∧ ¬ (n : Int) < x2)) with c2 | ⟨c2, c2'⟩ | ⟨c2, c2'⟩
    · obtain ⟨L1, hL1e⟩ : ∃ L, L = l.take hf := ⟨_, rfl⟩
      obtain ⟨L2, hL2e⟩ : ∃ L, L = (l.drop hf).take (n - hf) := ⟨_, rfl⟩
      obtain ⟨L3, hL3e⟩ : ∃ L, L = l.drop n := ⟨_, rfl⟩
      have hcat : Hid ([] ++ L1 ++ L2 ++ L3 = l) := Lib.hid (by
        rw [hL1e, hL2e, hL3e]
        have e1 : l.drop n = (l.drop hf).drop (n - hf) := by rw [List.drop_drop]; congr 1; omega
        rw [e1, List.nil_append, List.append_assoc, List.take_append_drop, List.take_append_drop])
      have hL1 : L1.length = hf := by rw [hL1e, List.length_take]; omega
      have hL2 : L2.length = n - hf := by rw [hL2e, List.length_take, List.length_drop]; omega
      have hL3 : L3.length = 0 := by rw [hL3e, List.length_drop]; omega
      have r1 : ∀ w', Ext w w' → Rd w' A (L1.map bv) := fun w' hx => by rw [hL1e, List.map_take]; exact (hr.ext hx).take hf
      have r2 : ∀ w', Ext w w' → Rd w' (cutA A hf cap 1) (L2.map bv) := fun w' hx => by
        rw [hL2e, List.map_take, List.map_drop]
        exact (Rd.cutA_ (hr.ext hx) (by rw [List.length_map]; omega)).take _
      have r3 : ∀ w', Ext w w' → Rd w' (cutA A n cap 1) (L3.map bv) := fun w' hx => by
        rw [hL3e, List.map_drop]
        exact Rd.cutA_ (hr.ext hx) (by rw [List.length_map]; omega)
      have hicap : hf ≤ cap := by omega
      have hkcap : n ≤ cap := by omega
      have f1 : (hf : Int) ≤ (cap : Int) := by omega
      have f2 : (n : Int) ≤ (cap : Int) := by omega
      have f3 : (hf : Int) ≤ (n : Int) := by omega
      have f4 : (n : Int) ≤ (n : Int) := by omega
      have n1 : ¬ n < hf := by omega
      have n2 : ¬ n < n := by omega
      have n3 : ¬ n < hf := by omega
      clear hL1e hL2e hL3e
      obtain ⟨D32, hD32⟩ : ∃ D, D = hash32 l := ⟨_, rfl⟩
      obtain ⟨D64, hD64⟩ : ∃ D, D = hash64 l := ⟨_, rfl⟩
      obtain ⟨P32, hP32⟩ : ∃ D, D = hash32 L1 := ⟨_, rfl⟩
      obtain ⟨P64, hP64⟩ : ∃ D, D = hash64 L1 := ⟨_, rfl⟩
      have lD32 : D32.length = 32 := by rw [hD32]; exact outAt_len32 l
      have lD64 : D64.length = 64 := by rw [hD64]; exact outAt_len64 l
      have lP32 : P32.length = 32 := by rw [hP32]; exact outAt_len32 L1
      have lP64 : P64.length = 64 := by rw [hP64]; exact outAt_len64 L1
      have kN0 := fun B b w h1 h2 => sumn_any B b ([] ++ L1) w h1 (by simp; omega) h2
      have kN1 := fun B b w h1 h2 => sumn_any B b l w h1 (by omega) h2
      have kW0 := fun B b w h1 h2 => sumw_any B b ([] ++ L1) w h1 (by simp; omega) h2
      have kW1 := fun B b w h1 h2 => sumw_any B b l w h1 (by omega) h2
      have kA := fun w h1 (h2 : Tabs w) => sum256_any A n cap l w hlen hle h1 (by omega) h2.1
      have kB := fun w h1 (h2 : Tabs w) => sum512_any A n cap l w hlen hle h1 (by omega) h2.2
      have kC := fun w h1 (h2 : Tabs w) => sum256_any A hf cap L1 w hL1 hicap h1 (by omega) h2.1
      have kD := fun w h1 (h2 : Tabs w) => sum512_any A hf cap L1 w hL1 hicap h1 (by omega) h2.2
      rw [List.nil_append] at kN0 kW0 hcat
      rw [← hP32] at kN0 kC
      rw [← hP64] at kW0 kD
      rw [← hD32] at kN1 kA
      rw [← hD64] at kW1 kB
      clear hD32 hD64 hP32 hP64
      go_enter Tryd.func5, Tryd.ntmps5
      go_wp2_with (go_at_call 6; with_reducible refine hs.mono ?_; rintro e w0 ⟨rfl, hx0⟩)
      go_loopw [11] (fun t11 wr => ∃ r : Nat, r ≤ 2 ∧ t11 = .int .i64 r ∧ Ext w wr) (fun t11 _ => 2 - (intOf t11).toNat)
      case atStart => exact ⟨0, by decide, rfl, hx0⟩
      case round =>
        obtain ⟨r, hr2, rfl, hE⟩ := hrel
        rcases (by omega : r = 0 ∨ r = 1 ∨ r = 2) with rfl | rfl | rfl
        · go_wp2_with (first
                | (go_at_call 12; with_reducible refine (new_any false _).mono ?_; rintro e w1 ⟨rfl, hH1, hx1⟩)
                | (go_at_call 13; with_reducible refine (write_any wr.heap.size wr.heap.size false [] A hf cap L1 w1 hH1 hL1 (r1 _ (Ext.trans hE hx1)) (by simp; omega) hx1.size).mono ?_; rintro e w2 ⟨rfl, hH2, hb2, -⟩; rw [List.nil_append] at hH2; have hx2 : Ext wr w2 := Below.trans hx1 hb2)
                | (go_at_call 14; with_reducible refine (kN0 wr.heap.size wr.heap.size w2 hH2 (hT.ext (Ext.trans hE hx2))).mono ?_; rintro e w3 ⟨m1, rfl, hm1, hx3⟩; have hx3' : Ext wr w3 := Ext.trans hx2 hx3; have hH3 := hH2.ext hx3; have hne1 := hH3.ne_row hm1 (by decide))
                | (go_at_call 13; with_reducible refine (write_any wr.heap.size wr.heap.size false L1 (cutA A hf cap 1) (n - hf) (cap - hf) L2 w3 hH3 hL2 (r2 _ (Ext.trans hE hx3')) (by omega) hx3'.size).mono ?_; rintro e w4 ⟨rfl, hH4, hb4, ho4⟩; have hx4 : Ext wr w4 := Below.trans hx3' hb4; have hm2 := ho4.row hm1 hne1 (by decide); have hne2 := hH4.ne_row hm2 (by decide))
                | (go_at_call 13; with_reducible refine (write_any wr.heap.size wr.heap.size false (L1 ++ L2) (cutA A n cap 1) 0 (cap - n) L3 w4 hH4 hL3 (r3 _ (Ext.trans hE hx4)) (by rw [List.length_append]; omega) hx4.size).mono ?_; rintro e w5 ⟨rfl, hH5, hb5, ho5⟩; have hx5 : Ext wr w5 := Below.trans hx4 hb5; have hm3 := ho5.row hm2 hne2 (by decide); rw [hcat.out] at hH5)
                | (go_at_call 14; with_reducible refine (kN1 wr.heap.size wr.heap.size w5 hH5 (hT.ext (Ext.trans hE hx5))).mono ?_; rintro e w6 ⟨mx, rfl, hmx, hx6⟩; have hx6' : Ext wr w6 := Ext.trans hx5 hx6; have hm4 := hm3.ext hx6; have hH6 := hH5.ext hx6)
                | (go_at_call 14; with_reducible refine (kN1 wr.heap.size wr.heap.size w6 hH6 (hT.ext (Ext.trans hE hx6'))).mono ?_; rintro e w7 ⟨my, rfl, hmy, hx7⟩; have hx7' : Ext wr w7 := Ext.trans hx6' hx7; have hmx2 := hmx.ext hx7; have hm5 := hm4.ext hx7)
                | (go_at_call 7; with_reducible refine (kA w7 (hr.ext (Ext.trans hE hx7')) (hT.ext (Ext.trans hE hx7'))).mono ?_; rintro e w8 ⟨rfl, hx8⟩)
                | ((with_reducible refine store_fresh32 ?_ (.tmp 16) (.tmp 75) ?_ D32 lD32 ?_ ?_ ?_); rfl; rfl; rfl; rfl; intro w9 ho16 hx9; have hx9' : Ext wr w9 := Ext.trans hx7' (Ext.trans hx8 hx9))
                | (go_at_call 8; with_reducible refine (kB w9 (hr.ext (Ext.trans hE hx9')) (hT.ext (Ext.trans hE hx9'))).mono ?_; rintro e w10 ⟨rfl, hx10⟩)
                | ((with_reducible refine store_fresh64 ?_ (.tmp 17) (.tmp 77) ?_ D64 lD64 ?_ ?_ ?_); rfl; rfl; rfl; rfl; intro w11 ho17 hx11; have hx11' : Ext wr w11 := Ext.trans hx9' (Ext.trans hx10 hx11))
                | (go_at_call 7; with_reducible refine (kC w11 (r1 _ (Ext.trans hE hx11')) (hT.ext (Ext.trans hE hx11'))).mono ?_; rintro e w12 ⟨rfl, hx12⟩)
                | ((with_reducible refine store_fresh32 ?_ (.tmp 18) (.tmp 81) ?_ P32 lP32 ?_ ?_ ?_); rfl; rfl; rfl; rfl; intro w13 ho18 hx13; have hx13' : Ext wr w13 := Ext.trans hx11' (Ext.trans hx12 hx13))
                | (go_at_call 8; with_reducible refine (kD w13 (r1 _ (Ext.trans hE hx13')) (hT.ext (Ext.trans hE hx13'))).mono ?_; rintro e w14 ⟨rfl, hx14⟩)
                | ((with_reducible refine store_fresh64 ?_ (.tmp 19) (.tmp 85) ?_ P64 lP64 ?_ ?_ ?_); rfl; rfl; rfl; rfl; intro w15 ho19 hx15; have hx15' : Ext wr w15 := Ext.trans hx13' (Ext.trans hx14 hx15); have gx := rowrd32 ((((((hmx2.ext hx8).ext hx9).ext hx10).ext hx11).ext hx12).ext hx13 |>.ext hx14 |>.ext hx15); have gy := rowrd32 ((((((hmy.ext hx8).ext hx9).ext hx10).ext hx11).ext hx12).ext hx13 |>.ext hx14 |>.ext hx15); have gm := rowrd32 ((((((hm5.ext hx8).ext hx9).ext hx10).ext hx11).ext hx12).ext hx13 |>.ext hx14 |>.ext hx15); have g16 := rowrd32 ((((ho16.ext hx10).ext hx11).ext hx12).ext hx13 |>.ext hx14 |>.ext hx15); have g17 := rowrd64 (((ho17.ext hx12).ext hx13).ext hx14 |>.ext hx15); have g18 := rowrd32 ((ho18.ext hx14).ext hx15); have g19 := rowrd64 ho19)
                | (go_at_call 9; with_reducible refine (hsame32 D32 lD32 _ _ _ gx g16).mono ?_; rintro e w16 ⟨rfl, hx16⟩)
                | (go_at_call 9; with_reducible refine (hsame32 D32 lD32 _ _ _ (gy.ext hx16) (g16.ext hx16)).mono ?_; rintro e w17 ⟨rfl, hx17⟩)
                | (go_at_call 9; with_reducible refine (hsame32 P32 lP32 _ _ _ (gm.ext (Ext.trans hx16 hx17)) (g18.ext (Ext.trans hx16 hx17))).mono ?_; rintro e w18 ⟨rfl, hx18⟩))
          exact ⟨⟨1, by decide, rfl, Ext.trans hE (Ext.trans hx15' (Ext.trans hx16 (Ext.trans hx17 hx18)))⟩, by decide⟩
        · go_wp2_with (first
                | (go_at_call 12; with_reducible refine (new_any true _).mono ?_; rintro e w1 ⟨rfl, hH1, hx1⟩)
                | (go_at_call 13; with_reducible refine (write_any wr.heap.size wr.heap.size true [] A hf cap L1 w1 hH1 hL1 (r1 _ (Ext.trans hE hx1)) (by simp; omega) hx1.size).mono ?_; rintro e w2 ⟨rfl, hH2, hb2, -⟩; rw [List.nil_append] at hH2; have hx2 : Ext wr w2 := Below.trans hx1 hb2)
                | (go_at_call 14; with_reducible refine (kW0 wr.heap.size wr.heap.size w2 hH2 (hT.ext (Ext.trans hE hx2))).mono ?_; rintro e w3 ⟨m1, rfl, hm1, hx3⟩; have hx3' : Ext wr w3 := Ext.trans hx2 hx3; have hH3 := hH2.ext hx3; have hne1 := hH3.ne_row hm1 (by decide))
                | (go_at_call 13; with_reducible refine (write_any wr.heap.size wr.heap.size true L1 (cutA A hf cap 1) (n - hf) (cap - hf) L2 w3 hH3 hL2 (r2 _ (Ext.trans hE hx3')) (by omega) hx3'.size).mono ?_; rintro e w4 ⟨rfl, hH4, hb4, ho4⟩; have hx4 : Ext wr w4 := Below.trans hx3' hb4; have hm2 := ho4.row hm1 hne1 (by decide); have hne2 := hH4.ne_row hm2 (by decide))
                | (go_at_call 13; with_reducible refine (write_any wr.heap.size wr.heap.size true (L1 ++ L2) (cutA A n cap 1) 0 (cap - n) L3 w4 hH4 hL3 (r3 _ (Ext.trans hE hx4)) (by rw [List.length_append]; omega) hx4.size).mono ?_; rintro e w5 ⟨rfl, hH5, hb5, ho5⟩; have hx5 : Ext wr w5 := Below.trans hx4 hb5; have hm3 := ho5.row hm2 hne2 (by decide); rw [hcat.out] at hH5)
                | (go_at_call 14; with_reducible refine (kW1 wr.heap.size wr.heap.size w5 hH5 (hT.ext (Ext.trans hE hx5))).mono ?_; rintro e w6 ⟨mx, rfl, hmx, hx6⟩; have hx6' : Ext wr w6 := Ext.trans hx5 hx6; have hm4 := hm3.ext hx6; have hH6 := hH5.ext hx6)
                | (go_at_call 14; with_reducible refine (kW1 wr.heap.size wr.heap.size w6 hH6 (hT.ext (Ext.trans hE hx6'))).mono ?_; rintro e w7 ⟨my, rfl, hmy, hx7⟩; have hx7' : Ext wr w7 := Ext.trans hx6' hx7; have hmx2 := hmx.ext hx7; have hm5 := hm4.ext hx7)
                | (go_at_call 7; with_reducible refine (kA w7 (hr.ext (Ext.trans hE hx7')) (hT.ext (Ext.trans hE hx7'))).mono ?_; rintro e w8 ⟨rfl, hx8⟩)
                | ((with_reducible refine store_fresh32 ?_ (.tmp 16) (.tmp 75) ?_ D32 lD32 ?_ ?_ ?_); rfl; rfl; rfl; rfl; intro w9 ho16 hx9; have hx9' : Ext wr w9 := Ext.trans hx7' (Ext.trans hx8 hx9))
                | (go_at_call 8; with_reducible refine (kB w9 (hr.ext (Ext.trans hE hx9')) (hT.ext (Ext.trans hE hx9'))).mono ?_; rintro e w10 ⟨rfl, hx10⟩)
                | ((with_reducible refine store_fresh64 ?_ (.tmp 17) (.tmp 77) ?_ D64 lD64 ?_ ?_ ?_); rfl; rfl; rfl; rfl; intro w11 ho17 hx11; have hx11' : Ext wr w11 := Ext.trans hx9' (Ext.trans hx10 hx11))
                | (go_at_call 7; with_reducible refine (kC w11 (r1 _ (Ext.trans hE hx11')) (hT.ext (Ext.trans hE hx11'))).mono ?_; rintro e w12 ⟨rfl, hx12⟩)
                | ((with_reducible refine store_fresh32 ?_ (.tmp 18) (.tmp 81) ?_ P32 lP32 ?_ ?_ ?_); rfl; rfl; rfl; rfl; intro w13 ho18 hx13; have hx13' : Ext wr w13 := Ext.trans hx11' (Ext.trans hx12 hx13))
                | (go_at_call 8; with_reducible refine (kD w13 (r1 _ (Ext.trans hE hx13')) (hT.ext (Ext.trans hE hx13'))).mono ?_; rintro e w14 ⟨rfl, hx14⟩)
                | ((with_reducible refine store_fresh64 ?_ (.tmp 19) (.tmp 85) ?_ P64 lP64 ?_ ?_ ?_); rfl; rfl; rfl; rfl; intro w15 ho19 hx15; have hx15' : Ext wr w15 := Ext.trans hx13' (Ext.trans hx14 hx15); have gx := rowrd64 ((((((hmx2.ext hx8).ext hx9).ext hx10).ext hx11).ext hx12).ext hx13 |>.ext hx14 |>.ext hx15); have gy := rowrd64 ((((((hmy.ext hx8).ext hx9).ext hx10).ext hx11).ext hx12).ext hx13 |>.ext hx14 |>.ext hx15); have gm := rowrd64 ((((((hm5.ext hx8).ext hx9).ext hx10).ext hx11).ext hx12).ext hx13 |>.ext hx14 |>.ext hx15); have g16 := rowrd32 ((((ho16.ext hx10).ext hx11).ext hx12).ext hx13 |>.ext hx14 |>.ext hx15); have g17 := rowrd64 (((ho17.ext hx12).ext hx13).ext hx14 |>.ext hx15); have g18 := rowrd32 ((ho18.ext hx14).ext hx15); have g19 := rowrd64 ho19)
                | (go_at_call 9; with_reducible refine (hsame64 D64 lD64 _ _ _ gx g17).mono ?_; rintro e w16 ⟨rfl, hx16⟩)
                | (go_at_call 9; with_reducible refine (hsame64 D64 lD64 _ _ _ (gy.ext hx16) (g17.ext hx16)).mono ?_; rintro e w17 ⟨rfl, hx17⟩)
                | (go_at_call 9; with_reducible refine (hsame64 P64 lP64 _ _ _ (gm.ext (Ext.trans hx16 hx17)) (g19.ext (Ext.trans hx16 hx17))).mono ?_; rintro e w18 ⟨rfl, hx18⟩))
          exact ⟨⟨2, by decide, rfl, Ext.trans hE (Ext.trans hx15' (Ext.trans hx16 (Ext.trans hx17 hx18)))⟩, by decide⟩
        · go_wp2
          go_ret
          exact ⟨rfl, hE⟩
    · obtain ⟨L1, hL1e⟩ : ∃ L, L = l.take hf := ⟨_, rfl⟩
      obtain ⟨L2, hL2e⟩ : ∃ L, L = (l.drop hf).take (n - hf) := ⟨_, rfl⟩
      obtain ⟨L3, hL3e⟩ : ∃ L, L = l.drop n := ⟨_, rfl⟩
      have hcat : Hid ([] ++ L1 ++ L2 ++ L3 = l) := Lib.hid (by
        rw [hL1e, hL2e, hL3e]
        have e1 : l.drop n = (l.drop hf).drop (n - hf) := by rw [List.drop_drop]; congr 1; omega
        rw [e1, List.nil_append, List.append_assoc, List.take_append_drop, List.take_append_drop])
      have hL1 : L1.length = hf := by rw [hL1e, List.length_take]; omega
      have hL2 : L2.length = n - hf := by rw [hL2e, List.length_take, List.length_drop]; omega
      have hL3 : L3.length = 0 := by rw [hL3e, List.length_drop]; omega
      have r1 : ∀ w', Ext w w' → Rd w' A (L1.map bv) := fun w' hx => by rw [hL1e, List.map_take]; exact (hr.ext hx).take hf
      have r2 : ∀ w', Ext w w' → Rd w' (cutA A hf cap 1) (L2.map bv) := fun w' hx => by
        rw [hL2e, List.map_take, List.map_drop]
        exact (Rd.cutA_ (hr.ext hx) (by rw [List.length_map]; omega)).take _
      have r3 : ∀ w', Ext w w' → Rd w' (cutA A n cap 1) (L3.map bv) := fun w' hx => by
        rw [hL3e, List.map_drop]
        exact Rd.cutA_ (hr.ext hx) (by rw [List.length_map]; omega)
      have hicap : hf ≤ cap := by omega
      have hkcap : n ≤ cap := by omega
      have f1 : (hf : Int) ≤ (cap : Int) := by omega
      have f2 : (n : Int) ≤ (cap : Int) := by omega
      have f3 : (hf : Int) ≤ (n : Int) := by omega
      have f4 : (n : Int) ≤ (n : Int) := by omega
      have n1 : ¬ n < hf := by omega
      have n2 : ¬ n < n := by omega
      have n3 : ¬ n < hf := by omega
      clear hL1e hL2e hL3e
      obtain ⟨D32, hD32⟩ : ∃ D, D = hash32 l := ⟨_, rfl⟩
      obtain ⟨D64, hD64⟩ : ∃ D, D = hash64 l := ⟨_, rfl⟩
      obtain ⟨P32, hP32⟩ : ∃ D, D = hash32 L1 := ⟨_, rfl⟩
      obtain ⟨P64, hP64⟩ : ∃ D, D = hash64 L1 := ⟨_, rfl⟩
      have lD32 : D32.length = 32 := by rw [hD32]; exact outAt_len32 l
      have lD64 : D64.length = 64 := by rw [hD64]; exact outAt_len64 l
      have lP32 : P32.length = 32 := by rw [hP32]; exact outAt_len32 L1
      have lP64 : P64.length = 64 := by rw [hP64]; exact outAt_len64 L1
      have kN0 := fun B b w h1 h2 => sumn_any B b ([] ++ L1) w h1 (by simp; omega) h2
      have kN1 := fun B b w h1 h2 => sumn_any B b l w h1 (by omega) h2
      have kW0 := fun B b w h1 h2 => sumw_any B b ([] ++ L1) w h1 (by simp; omega) h2
      have kW1 := fun B b w h1 h2 => sumw_any B b l w h1 (by omega) h2
      have kA := fun w h1 (h2 : Tabs w) => sum256_any A n cap l w hlen hle h1 (by omega) h2.1
      have kB := fun w h1 (h2 : Tabs w) => sum512_any A n cap l w hlen hle h1 (by omega) h2.2
      have kC := fun w h1 (h2 : Tabs w) => sum256_any A hf cap L1 w hL1 hicap h1 (by omega) h2.1
      have kD := fun w h1 (h2 : Tabs w) => sum512_any A hf cap L1 w hL1 hicap h1 (by omega) h2.2
      rw [List.nil_append] at kN0 kW0 hcat
      rw [← hP32] at kN0 kC
      rw [← hP64] at kW0 kD
      rw [← hD32] at kN1 kA
      rw [← hD64] at kW1 kB
      clear hD32 hD64 hP32 hP64
      go_enter Tryd.func5, Tryd.ntmps5
      go_wp2_with (go_at_call 6; with_reducible refine hs.mono ?_; rintro e w0 ⟨rfl, hx0⟩)
      go_loopw [11] (fun t11 wr => ∃ r : Nat, r ≤ 2 ∧ t11 = .int .i64 r ∧ Ext w wr) (fun t11 _ => 2 - (intOf t11).toNat)
      case atStart => exact ⟨0, by decide, rfl, hx0⟩
      case round =>
        obtain ⟨r, hr2, rfl, hE⟩ := hrel
        rcases (by omega : r = 0 ∨ r = 1 ∨ r = 2) with rfl | rfl | rfl
        · go_wp2_with (first
                | (go_at_call 12; with_reducible refine (new_any false _).mono ?_; rintro e w1 ⟨rfl, hH1, hx1⟩)
                | (go_at_call 13; with_reducible refine (write_any wr.heap.size wr.heap.size false [] A hf cap L1 w1 hH1 hL1 (r1 _ (Ext.trans hE hx1)) (by simp; omega) hx1.size).mono ?_; rintro e w2 ⟨rfl, hH2, hb2, -⟩; rw [List.nil_append] at hH2; have hx2 : Ext wr w2 := Below.trans hx1 hb2)
                | (go_at_call 14; with_reducible refine (kN0 wr.heap.size wr.heap.size w2 hH2 (hT.ext (Ext.trans hE hx2))).mono ?_; rintro e w3 ⟨m1, rfl, hm1, hx3⟩; have hx3' : Ext wr w3 := Ext.trans hx2 hx3; have hH3 := hH2.ext hx3; have hne1 := hH3.ne_row hm1 (by decide))
                | (go_at_call 13; with_reducible refine (write_any wr.heap.size wr.heap.size false L1 (cutA A hf cap 1) (n - hf) (cap - hf) L2 w3 hH3 hL2 (r2 _ (Ext.trans hE hx3')) (by omega) hx3'.size).mono ?_; rintro e w4 ⟨rfl, hH4, hb4, ho4⟩; have hx4 : Ext wr w4 := Below.trans hx3' hb4; have hm2 := ho4.row hm1 hne1 (by decide); have hne2 := hH4.ne_row hm2 (by decide))
                | (go_at_call 13; with_reducible refine (write_any wr.heap.size wr.heap.size false (L1 ++ L2) (cutA A n cap 1) 0 (cap - n) L3 w4 hH4 hL3 (r3 _ (Ext.trans hE hx4)) (by rw [List.length_append]; omega) hx4.size).mono ?_; rintro e w5 ⟨rfl, hH5, hb5, ho5⟩; have hx5 : Ext wr w5 := Below.trans hx4 hb5; have hm3 := ho5.row hm2 hne2 (by decide); rw [hcat.out] at hH5)
                | (go_at_call 14; with_reducible refine (kN1 wr.heap.size wr.heap.size w5 hH5 (hT.ext (Ext.trans hE hx5))).mono ?_; rintro e w6 ⟨mx, rfl, hmx, hx6⟩; have hx6' : Ext wr w6 := Ext.trans hx5 hx6; have hm4 := hm3.ext hx6; have hH6 := hH5.ext hx6)
                | (go_at_call 14; with_reducible refine (kN1 wr.heap.size wr.heap.size w6 hH6 (hT.ext (Ext.trans hE hx6'))).mono ?_; rintro e w7 ⟨my, rfl, hmy, hx7⟩; have hx7' : Ext wr w7 := Ext.trans hx6' hx7; have hmx2 := hmx.ext hx7; have hm5 := hm4.ext hx7)
                | (go_at_call 7; with_reducible refine (kA w7 (hr.ext (Ext.trans hE hx7')) (hT.ext (Ext.trans hE hx7'))).mono ?_; rintro e w8 ⟨rfl, hx8⟩)
                | ((with_reducible refine store_fresh32 ?_ (.tmp 16) (.tmp 75) ?_ D32 lD32 ?_ ?_ ?_); rfl; rfl; rfl; rfl; intro w9 ho16 hx9; have hx9' : Ext wr w9 := Ext.trans hx7' (Ext.trans hx8 hx9))
                | (go_at_call 8; with_reducible refine (kB w9 (hr.ext (Ext.trans hE hx9')) (hT.ext (Ext.trans hE hx9'))).mono ?_; rintro e w10 ⟨rfl, hx10⟩)
                | ((with_reducible refine store_fresh64 ?_ (.tmp 17) (.tmp 77) ?_ D64 lD64 ?_ ?_ ?_); rfl; rfl; rfl; rfl; intro w11 ho17 hx11; have hx11' : Ext wr w11 := Ext.trans hx9' (Ext.trans hx10 hx11))
                | (go_at_call 7; with_reducible refine (kC w11 (r1 _ (Ext.trans hE hx11')) (hT.ext (Ext.trans hE hx11'))).mono ?_; rintro e w12 ⟨rfl, hx12⟩)
                | ((with_reducible refine store_fresh32 ?_ (.tmp 18) (.tmp 81) ?_ P32 lP32 ?_ ?_ ?_); rfl; rfl; rfl; rfl; intro w13 ho18 hx13; have hx13' : Ext wr w13 := Ext.trans hx11' (Ext.trans hx12 hx13))
                | (go_at_call 8; with_reducible refine (kD w13 (r1 _ (Ext.trans hE hx13')) (hT.ext (Ext.trans hE hx13'))).mono ?_; rintro e w14 ⟨rfl, hx14⟩)
                | ((with_reducible refine store_fresh64 ?_ (.tmp 19) (.tmp 85) ?_ P64 lP64 ?_ ?_ ?_); rfl; rfl; rfl; rfl; intro w15 ho19 hx15; have hx15' : Ext wr w15 := Ext.trans hx13' (Ext.trans hx14 hx15); have gx := rowrd32 ((((((hmx2.ext hx8).ext hx9).ext hx10).ext hx11).ext hx12).ext hx13 |>.ext hx14 |>.ext hx15); have gy := rowrd32 ((((((hmy.ext hx8).ext hx9).ext hx10).ext hx11).ext hx12).ext hx13 |>.ext hx14 |>.ext hx15); have gm := rowrd32 ((((((hm5.ext hx8).ext hx9).ext hx10).ext hx11).ext hx12).ext hx13 |>.ext hx14 |>.ext hx15); have g16 := rowrd32 ((((ho16.ext hx10).ext hx11).ext hx12).ext hx13 |>.ext hx14 |>.ext hx15); have g17 := rowrd64 (((ho17.ext hx12).ext hx13).ext hx14 |>.ext hx15); have g18 := rowrd32 ((ho18.ext hx14).ext hx15); have g19 := rowrd64 ho19)
                | (go_at_call 9; with_reducible refine (hsame32 D32 lD32 _ _ _ gx g16).mono ?_; rintro e w16 ⟨rfl, hx16⟩)
                | (go_at_call 9; with_reducible refine (hsame32 D32 lD32 _ _ _ (gy.ext hx16) (g16.ext hx16)).mono ?_; rintro e w17 ⟨rfl, hx17⟩)
                | (go_at_call 9; with_reducible refine (hsame32 P32 lP32 _ _ _ (gm.ext (Ext.trans hx16 hx17)) (g18.ext (Ext.trans hx16 hx17))).mono ?_; rintro e w18 ⟨rfl, hx18⟩))
          exact ⟨⟨1, by decide, rfl, Ext.trans hE (Ext.trans hx15' (Ext.trans hx16 (Ext.trans hx17 hx18)))⟩, by decide⟩
        · go_wp2_with (first
                | (go_at_call 12; with_reducible refine (new_any true _).mono ?_; rintro e w1 ⟨rfl, hH1, hx1⟩)
                | (go_at_call 13; with_reducible refine (write_any wr.heap.size wr.heap.size true [] A hf cap L1 w1 hH1 hL1 (r1 _ (Ext.trans hE hx1)) (by simp; omega) hx1.size).mono ?_; rintro e w2 ⟨rfl, hH2, hb2, -⟩; rw [List.nil_append] at hH2; have hx2 : Ext wr w2 := Below.trans hx1 hb2)
                | (go_at_call 14; with_reducible refine (kW0 wr.heap.size wr.heap.size w2 hH2 (hT.ext (Ext.trans hE hx2))).mono ?_; rintro e w3 ⟨m1, rfl, hm1, hx3⟩; have hx3' : Ext wr w3 := Ext.trans hx2 hx3; have hH3 := hH2.ext hx3; have hne1 := hH3.ne_row hm1 (by decide))
                | (go_at_call 13; with_reducible refine (write_any wr.heap.size wr.heap.size true L1 (cutA A hf cap 1) (n - hf) (cap - hf) L2 w3 hH3 hL2 (r2 _ (Ext.trans hE hx3')) (by omega) hx3'.size).mono ?_; rintro e w4 ⟨rfl, hH4, hb4, ho4⟩; have hx4 : Ext wr w4 := Below.trans hx3' hb4; have hm2 := ho4.row hm1 hne1 (by decide); have hne2 := hH4.ne_row hm2 (by decide))
                | (go_at_call 13; with_reducible refine (write_any wr.heap.size wr.heap.size true (L1 ++ L2) (cutA A n cap 1) 0 (cap - n) L3 w4 hH4 hL3 (r3 _ (Ext.trans hE hx4)) (by rw [List.length_append]; omega) hx4.size).mono ?_; rintro e w5 ⟨rfl, hH5, hb5, ho5⟩; have hx5 : Ext wr w5 := Below.trans hx4 hb5; have hm3 := ho5.row hm2 hne2 (by decide); rw [hcat.out] at hH5)
                | (go_at_call 14; with_reducible refine (kW1 wr.heap.size wr.heap.size w5 hH5 (hT.ext (Ext.trans hE hx5))).mono ?_; rintro e w6 ⟨mx, rfl, hmx, hx6⟩; have hx6' : Ext wr w6 := Ext.trans hx5 hx6; have hm4 := hm3.ext hx6; have hH6 := hH5.ext hx6)
                | (go_at_call 14; with_reducible refine (kW1 wr.heap.size wr.heap.size w6 hH6 (hT.ext (Ext.trans hE hx6'))).mono ?_; rintro e w7 ⟨my, rfl, hmy, hx7⟩; have hx7' : Ext wr w7 := Ext.trans hx6' hx7; have hmx2 := hmx.ext hx7; have hm5 := hm4.ext hx7)
                | (go_at_call 7; with_reducible refine (kA w7 (hr.ext (Ext.trans hE hx7')) (hT.ext (Ext.trans hE hx7'))).mono ?_; rintro e w8 ⟨rfl, hx8⟩)
                | ((with_reducible refine store_fresh32 ?_ (.tmp 16) (.tmp 75) ?_ D32 lD32 ?_ ?_ ?_); rfl; rfl; rfl; rfl; intro w9 ho16 hx9; have hx9' : Ext wr w9 := Ext.trans hx7' (Ext.trans hx8 hx9))
                | (go_at_call 8; with_reducible refine (kB w9 (hr.ext (Ext.trans hE hx9')) (hT.ext (Ext.trans hE hx9'))).mono ?_; rintro e w10 ⟨rfl, hx10⟩)
                | ((with_reducible refine store_fresh64 ?_ (.tmp 17) (.tmp 77) ?_ D64 lD64 ?_ ?_ ?_); rfl; rfl; rfl; rfl; intro w11 ho17 hx11; have hx11' : Ext wr w11 := Ext.trans hx9' (Ext.trans hx10 hx11))
                | (go_at_call 7; with_reducible refine (kC w11 (r1 _ (Ext.trans hE hx11')) (hT.ext (Ext.trans hE hx11'))).mono ?_; rintro e w12 ⟨rfl, hx12⟩)
                | ((with_reducible refine store_fresh32 ?_ (.tmp 18) (.tmp 81) ?_ P32 lP32 ?_ ?_ ?_); rfl; rfl; rfl; rfl; intro w13 ho18 hx13; have hx13' : Ext wr w13 := Ext.trans hx11' (Ext.trans hx12 hx13))
                | (go_at_call 8; with_reducible refine (kD w13 (r1 _ (Ext.trans hE hx13')) (hT.ext (Ext.trans hE hx13'))).mono ?_; rintro e w14 ⟨rfl, hx14⟩)
                | ((with_reducible refine store_fresh64 ?_ (.tmp 19) (.tmp 85) ?_ P64 lP64 ?_ ?_ ?_); rfl; rfl; rfl; rfl; intro w15 ho19 hx15; have hx15' : Ext wr w15 := Ext.trans hx13' (Ext.trans hx14 hx15); have gx := rowrd64 ((((((hmx2.ext hx8).ext hx9).ext hx10).ext hx11).ext hx12).ext hx13 |>.ext hx14 |>.ext hx15); have gy := rowrd64 ((((((hmy.ext hx8).ext hx9).ext hx10).ext hx11).ext hx12).ext hx13 |>.ext hx14 |>.ext hx15); have gm := rowrd64 ((((((hm5.ext hx8).ext hx9).ext hx10).ext hx11).ext hx12).ext hx13 |>.ext hx14 |>.ext hx15); have g16 := rowrd32 ((((ho16.ext hx10).ext hx11).ext hx12).ext hx13 |>.ext hx14 |>.ext hx15); have g17 := rowrd64 (((ho17.ext hx12).ext hx13).ext hx14 |>.ext hx15); have g18 := rowrd32 ((ho18.ext hx14).ext hx15); have g19 := rowrd64 ho19)
                | (go_at_call 9; with_reducible refine (hsame64 D64 lD64 _ _ _ gx g17).mono ?_; rintro e w16 ⟨rfl, hx16⟩)
                | (go_at_call 9; with_reducible refine (hsame64 D64 lD64 _ _ _ (gy.ext hx16) (g17.ext hx16)).mono ?_; rintro e w17 ⟨rfl, hx17⟩)
                | (go_at_call 9; with_reducible refine (hsame64 P64 lP64 _ _ _ (gm.ext (Ext.trans hx16 hx17)) (g19.ext (Ext.trans hx16 hx17))).mono ?_; rintro e w18 ⟨rfl, hx18⟩))
          exact ⟨⟨2, by decide, rfl, Ext.trans hE (Ext.trans hx15' (Ext.trans hx16 (Ext.trans hx17 hx18)))⟩, by decide⟩
        · go_wp2
          go_ret
          exact ⟨rfl, hE⟩
    · obtain ⟨k, rfl⟩ : ∃ k : Nat, x2 = (k : Int) := ⟨x2.toNat, by omega⟩
      obtain ⟨L1, hL1e⟩ : ∃ L, L = l.take hf := ⟨_, rfl⟩
      obtain ⟨L2, hL2e⟩ : ∃ L, L = (l.drop hf).take (k - hf) := ⟨_, rfl⟩
      obtain ⟨L3, hL3e⟩ : ∃ L, L = l.drop k := ⟨_, rfl⟩
      have hcat : Hid ([] ++ L1 ++ L2 ++ L3 = l) := Lib.hid (by
        rw [hL1e, hL2e, hL3e]
        have e1 : l.drop k = (l.drop hf).drop (k - hf) := by rw [List.drop_drop]; congr 1; omega
        rw [e1, List.nil_append, List.append_assoc, List.take_append_drop, List.take_append_drop])
      have hL1 : L1.length = hf := by rw [hL1e, List.length_take]; omega
      have hL2 : L2.length = k - hf := by rw [hL2e, List.length_take, List.length_drop]; omega
      have hL3 : L3.length = n - k := by rw [hL3e, List.length_drop]; omega
      have r1 : ∀ w', Ext w w' → Rd w' A (L1.map bv) := fun w' hx => by rw [hL1e, List.map_take]; exact (hr.ext hx).take hf
      have r2 : ∀ w', Ext w w' → Rd w' (cutA A hf cap 1) (L2.map bv) := fun w' hx => by
        rw [hL2e, List.map_take, List.map_drop]
        exact (Rd.cutA_ (hr.ext hx) (by rw [List.length_map]; omega)).take _
      have r3 : ∀ w', Ext w w' → Rd w' (cutA A k cap 1) (L3.map bv) := fun w' hx => by
        rw [hL3e, List.map_drop]
        exact Rd.cutA_ (hr.ext hx) (by rw [List.length_map]; omega)
      have hicap : hf ≤ cap := by omega
      have hkcap : k ≤ cap := by omega
      have f1 : (hf : Int) ≤ (cap : Int) := by omega
      have f2 : (k : Int) ≤ (cap : Int) := by omega
      have f3 : (hf : Int) ≤ (k : Int) := by omega
      have f4 : (k : Int) ≤ (n : Int) := by omega
      have n1 : ¬ k < hf := by omega
      have n2 : ¬ n < k := by omega
      have n3 : ¬ n < hf := by omega
      clear hL1e hL2e hL3e
      obtain ⟨D32, hD32⟩ : ∃ D, D = hash32 l := ⟨_, rfl⟩
      obtain ⟨D64, hD64⟩ : ∃ D, D = hash64 l := ⟨_, rfl⟩
      obtain ⟨P32, hP32⟩ : ∃ D, D = hash32 L1 := ⟨_, rfl⟩
      obtain ⟨P64, hP64⟩ : ∃ D, D = hash64 L1 := ⟨_, rfl⟩
      have lD32 : D32.length = 32 := by rw [hD32]; exact outAt_len32 l
      have lD64 : D64.length = 64 := by rw [hD64]; exact outAt_len64 l
      have lP32 : P32.length = 32 := by rw [hP32]; exact outAt_len32 L1
      have lP64 : P64.length = 64 := by rw [hP64]; exact outAt_len64 L1
      have kN0 := fun B b w h1 h2 => sumn_any B b ([] ++ L1) w h1 (by simp; omega) h2
      have kN1 := fun B b w h1 h2 => sumn_any B b l w h1 (by omega) h2
      have kW0 := fun B b w h1 h2 => sumw_any B b ([] ++ L1) w h1 (by simp; omega) h2
      have kW1 := fun B b w h1 h2 => sumw_any B b l w h1 (by omega) h2
      have kA := fun w h1 (h2 : Tabs w) => sum256_any A n cap l w hlen hle h1 (by omega) h2.1
      have kB := fun w h1 (h2 : Tabs w) => sum512_any A n cap l w hlen hle h1 (by omega) h2.2
      have kC := fun w h1 (h2 : Tabs w) => sum256_any A hf cap L1 w hL1 hicap h1 (by omega) h2.1
      have kD := fun w h1 (h2 : Tabs w) => sum512_any A hf cap L1 w hL1 hicap h1 (by omega) h2.2
      rw [List.nil_append] at kN0 kW0 hcat
      rw [← hP32] at kN0 kC
      rw [← hP64] at kW0 kD
      rw [← hD32] at kN1 kA
      rw [← hD64] at kW1 kB
      clear hD32 hD64 hP32 hP64
      go_enter Tryd.func5, Tryd.ntmps5
      go_wp2_with (go_at_call 6; with_reducible refine hs.mono ?_; rintro e w0 ⟨rfl, hx0⟩)
      go_loopw [11] (fun t11 wr => ∃ r : Nat, r ≤ 2 ∧ t11 = .int .i64 r ∧ Ext w wr) (fun t11 _ => 2 - (intOf t11).toNat)
      case atStart => exact ⟨0, by decide, rfl, hx0⟩
      case round =>
        obtain ⟨r, hr2, rfl, hE⟩ := hrel
        rcases (by omega : r = 0 ∨ r = 1 ∨ r = 2) with rfl | rfl | rfl
        · go_wp2_with (first
                | (go_at_call 12; with_reducible refine (new_any false _).mono ?_; rintro e w1 ⟨rfl, hH1, hx1⟩)
                | (go_at_call 13; with_reducible refine (write_any wr.heap.size wr.heap.size false [] A hf cap L1 w1 hH1 hL1 (r1 _ (Ext.trans hE hx1)) (by simp; omega) hx1.size).mono ?_; rintro e w2 ⟨rfl, hH2, hb2, -⟩; rw [List.nil_append] at hH2; have hx2 : Ext wr w2 := Below.trans hx1 hb2)
                | (go_at_call 14; with_reducible refine (kN0 wr.heap.size wr.heap.size w2 hH2 (hT.ext (Ext.trans hE hx2))).mono ?_; rintro e w3 ⟨m1, rfl, hm1, hx3⟩; have hx3' : Ext wr w3 := Ext.trans hx2 hx3; have hH3 := hH2.ext hx3; have hne1 := hH3.ne_row hm1 (by decide))
                | (go_at_call 13; with_reducible refine (write_any wr.heap.size wr.heap.size false L1 (cutA A hf cap 1) (k - hf) (cap - hf) L2 w3 hH3 hL2 (r2 _ (Ext.trans hE hx3')) (by omega) hx3'.size).mono ?_; rintro e w4 ⟨rfl, hH4, hb4, ho4⟩; have hx4 : Ext wr w4 := Below.trans hx3' hb4; have hm2 := ho4.row hm1 hne1 (by decide); have hne2 := hH4.ne_row hm2 (by decide))
                | (go_at_call 13; with_reducible refine (write_any wr.heap.size wr.heap.size false (L1 ++ L2) (cutA A k cap 1) (n - k) (cap - k) L3 w4 hH4 hL3 (r3 _ (Ext.trans hE hx4)) (by rw [List.length_append]; omega) hx4.size).mono ?_; rintro e w5 ⟨rfl, hH5, hb5, ho5⟩; have hx5 : Ext wr w5 := Below.trans hx4 hb5; have hm3 := ho5.row hm2 hne2 (by decide); rw [hcat.out] at hH5)
                | (go_at_call 14; with_reducible refine (kN1 wr.heap.size wr.heap.size w5 hH5 (hT.ext (Ext.trans hE hx5))).mono ?_; rintro e w6 ⟨mx, rfl, hmx, hx6⟩; have hx6' : Ext wr w6 := Ext.trans hx5 hx6; have hm4 := hm3.ext hx6; have hH6 := hH5.ext hx6)
                | (go_at_call 14; with_reducible refine (kN1 wr.heap.size wr.heap.size w6 hH6 (hT.ext (Ext.trans hE hx6'))).mono ?_; rintro e w7 ⟨my, rfl, hmy, hx7⟩; have hx7' : Ext wr w7 := Ext.trans hx6' hx7; have hmx2 := hmx.ext hx7; have hm5 := hm4.ext hx7)
                | (go_at_call 7; with_reducible refine (kA w7 (hr.ext (Ext.trans hE hx7')) (hT.ext (Ext.trans hE hx7'))).mono ?_; rintro e w8 ⟨rfl, hx8⟩)
                | ((with_reducible refine store_fresh32 ?_ (.tmp 16) (.tmp 75) ?_ D32 lD32 ?_ ?_ ?_); rfl; rfl; rfl; rfl; intro w9 ho16 hx9; have hx9' : Ext wr w9 := Ext.trans hx7' (Ext.trans hx8 hx9))
                | (go_at_call 8; with_reducible refine (kB w9 (hr.ext (Ext.trans hE hx9')) (hT.ext (Ext.trans hE hx9'))).mono ?_; rintro e w10 ⟨rfl, hx10⟩)
                | ((with_reducible refine store_fresh64 ?_ (.tmp 17) (.tmp 77) ?_ D64 lD64 ?_ ?_ ?_); rfl; rfl; rfl; rfl; intro w11 ho17 hx11; have hx11' : Ext wr w11 := Ext.trans hx9' (Ext.trans hx10 hx11))
                | (go_at_call 7; with_reducible refine (kC w11 (r1 _ (Ext.trans hE hx11')) (hT.ext (Ext.trans hE hx11'))).mono ?_; rintro e w12 ⟨rfl, hx12⟩)
                | ((with_reducible refine store_fresh32 ?_ (.tmp 18) (.tmp 81) ?_ P32 lP32 ?_ ?_ ?_); rfl; rfl; rfl; rfl; intro w13 ho18 hx13; have hx13' : Ext wr w13 := Ext.trans hx11' (Ext.trans hx12 hx13))
                | (go_at_call 8; with_reducible refine (kD w13 (r1 _ (Ext.trans hE hx13')) (hT.ext (Ext.trans hE hx13'))).mono ?_; rintro e w14 ⟨rfl, hx14⟩)
                | ((with_reducible refine store_fresh64 ?_ (.tmp 19) (.tmp 85) ?_ P64 lP64 ?_ ?_ ?_); rfl; rfl; rfl; rfl; intro w15 ho19 hx15; have hx15' : Ext wr w15 := Ext.trans hx13' (Ext.trans hx14 hx15); have gx := rowrd32 ((((((hmx2.ext hx8).ext hx9).ext hx10).ext hx11).ext hx12).ext hx13 |>.ext hx14 |>.ext hx15); have gy := rowrd32 ((((((hmy.ext hx8).ext hx9).ext hx10).ext hx11).ext hx12).ext hx13 |>.ext hx14 |>.ext hx15); have gm := rowrd32 ((((((hm5.ext hx8).ext hx9).ext hx10).ext hx11).ext hx12).ext hx13 |>.ext hx14 |>.ext hx15); have g16 := rowrd32 ((((ho16.ext hx10).ext hx11).ext hx12).ext hx13 |>.ext hx14 |>.ext hx15); have g17 := rowrd64 (((ho17.ext hx12).ext hx13).ext hx14 |>.ext hx15); have g18 := rowrd32 ((ho18.ext hx14).ext hx15); have g19 := rowrd64 ho19)
                | (go_at_call 9; with_reducible refine (hsame32 D32 lD32 _ _ _ gx g16).mono ?_; rintro e w16 ⟨rfl, hx16⟩)
                | (go_at_call 9; with_reducible refine (hsame32 D32 lD32 _ _ _ (gy.ext hx16) (g16.ext hx16)).mono ?_; rintro e w17 ⟨rfl, hx17⟩)
                | (go_at_call 9; with_reducible refine (hsame32 P32 lP32 _ _ _ (gm.ext (Ext.trans hx16 hx17)) (g18.ext (Ext.trans hx16 hx17))).mono ?_; rintro e w18 ⟨rfl, hx18⟩))
          exact ⟨⟨1, by decide, rfl, Ext.trans hE (Ext.trans hx15' (Ext.trans hx16 (Ext.trans hx17 hx18)))⟩, by decide⟩
        · go_wp2_with (first
                | (go_at_call 12; with_reducible refine (new_any true _).mono ?_; rintro e w1 ⟨rfl, hH1, hx1⟩)
                | (go_at_call 13; with_reducible refine (write_any wr.heap.size wr.heap.size true [] A hf cap L1 w1 hH1 hL1 (r1 _ (Ext.trans hE hx1)) (by simp; omega) hx1.size).mono ?_; rintro e w2 ⟨rfl, hH2, hb2, -⟩; rw [List.nil_append] at hH2; have hx2 : Ext wr w2 := Below.trans hx1 hb2)
                | (go_at_call 14; with_reducible refine (kW0 wr.heap.size wr.heap.size w2 hH2 (hT.ext (Ext.trans hE hx2))).mono ?_; rintro e w3 ⟨m1, rfl, hm1, hx3⟩; have hx3' : Ext wr w3 := Ext.trans hx2 hx3; have hH3 := hH2.ext hx3; have hne1 := hH3.ne_row hm1 (by decide))
                | (go_at_call 13; with_reducible refine (write_any wr.heap.size wr.heap.size true L1 (cutA A hf cap 1) (k - hf) (cap - hf) L2 w3 hH3 hL2 (r2 _ (Ext.trans hE hx3')) (by omega) hx3'.size).mono ?_; rintro e w4 ⟨rfl, hH4, hb4, ho4⟩; have hx4 : Ext wr w4 := Below.trans hx3' hb4; have hm2 := ho4.row hm1 hne1 (by decide); have hne2 := hH4.ne_row hm2 (by decide))
                | (go_at_call 13; with_reducible refine (write_any wr.heap.size wr.heap.size true (L1 ++ L2) (cutA A k cap 1) (n - k) (cap - k) L3 w4 hH4 hL3 (r3 _ (Ext.trans hE hx4)) (by rw [List.length_append]; omega) hx4.size).mono ?_; rintro e w5 ⟨rfl, hH5, hb5, ho5⟩; have hx5 : Ext wr w5 := Below.trans hx4 hb5; have hm3 := ho5.row hm2 hne2 (by decide); rw [hcat.out] at hH5)
                | (go_at_call 14; with_reducible refine (kW1 wr.heap.size wr.heap.size w5 hH5 (hT.ext (Ext.trans hE hx5))).mono ?_; rintro e w6 ⟨mx, rfl, hmx, hx6⟩; have hx6' : Ext wr w6 := Ext.trans hx5 hx6; have hm4 := hm3.ext hx6; have hH6 := hH5.ext hx6)
                | (go_at_call 14; with_reducible refine (kW1 wr.heap.size wr.heap.size w6 hH6 (hT.ext (Ext.trans hE hx6'))).mono ?_; rintro e w7 ⟨my, rfl, hmy, hx7⟩; have hx7' : Ext wr w7 := Ext.trans hx6' hx7; have hmx2 := hmx.ext hx7; have hm5 := hm4.ext hx7)
                | (go_at_call 7; with_reducible refine (kA w7 (hr.ext (Ext.trans hE hx7')) (hT.ext (Ext.trans hE hx7'))).mono ?_; rintro e w8 ⟨rfl, hx8⟩)
                | ((with_reducible refine store_fresh32 ?_ (.tmp 16) (.tmp 75) ?_ D32 lD32 ?_ ?_ ?_); rfl; rfl; rfl; rfl; intro w9 ho16 hx9; have hx9' : Ext wr w9 := Ext.trans hx7' (Ext.trans hx8 hx9))
                | (go_at_call 8; with_reducible refine (kB w9 (hr.ext (Ext.trans hE hx9')) (hT.ext (Ext.trans hE hx9'))).mono ?_; rintro e w10 ⟨rfl, hx10⟩)
                | ((with_reducible refine store_fresh64 ?_ (.tmp 17) (.tmp 77) ?_ D64 lD64 ?_ ?_ ?_); rfl; rfl; rfl; rfl; intro w11 ho17 hx11; have hx11' : Ext wr w11 := Ext.trans hx9' (Ext.trans hx10 hx11))
                | (go_at_call 7; with_reducible refine (kC w11 (r1 _ (Ext.trans hE hx11')) (hT.ext (Ext.trans hE hx11'))).mono ?_; rintro e w12 ⟨rfl, hx12⟩)
                | ((with_reducible refine store_fresh32 ?_ (.tmp 18) (.tmp 81) ?_ P32 lP32 ?_ ?_ ?_); rfl; rfl; rfl; rfl; intro w13 ho18 hx13; have hx13' : Ext wr w13 := Ext.trans hx11' (Ext.trans hx12 hx13))
                | (go_at_call 8; with_reducible refine (kD w13 (r1 _ (Ext.trans hE hx13')) (hT.ext (Ext.trans hE hx13'))).mono ?_; rintro e w14 ⟨rfl, hx14⟩)
                | ((with_reducible refine store_fresh64 ?_ (.tmp 19) (.tmp 85) ?_ P64 lP64 ?_ ?_ ?_); rfl; rfl; rfl; rfl; intro w15 ho19 hx15; have hx15' : Ext wr w15 := Ext.trans hx13' (Ext.trans hx14 hx15); have gx := rowrd64 ((((((hmx2.ext hx8).ext hx9).ext hx10).ext hx11).ext hx12).ext hx13 |>.ext hx14 |>.ext hx15); have gy := rowrd64 ((((((hmy.ext hx8).ext hx9).ext hx10).ext hx11).ext hx12).ext hx13 |>.ext hx14 |>.ext hx15); have gm := rowrd64 ((((((hm5.ext hx8).ext hx9).ext hx10).ext hx11).ext hx12).ext hx13 |>.ext hx14 |>.ext hx15); have g16 := rowrd32 ((((ho16.ext hx10).ext hx11).ext hx12).ext hx13 |>.ext hx14 |>.ext hx15); have g17 := rowrd64 (((ho17.ext hx12).ext hx13).ext hx14 |>.ext hx15); have g18 := rowrd32 ((ho18.ext hx14).ext hx15); have g19 := rowrd64 ho19)
                | (go_at_call 9; with_reducible refine (hsame64 D64 lD64 _ _ _ gx g17).mono ?_; rintro e w16 ⟨rfl, hx16⟩)
                | (go_at_call 9; with_reducible refine (hsame64 D64 lD64 _ _ _ (gy.ext hx16) (g17.ext hx16)).mono ?_; rintro e w17 ⟨rfl, hx17⟩)
                | (go_at_call 9; with_reducible refine (hsame64 P64 lP64 _ _ _ (gm.ext (Ext.trans hx16 hx17)) (g19.ext (Ext.trans hx16 hx17))).mono ?_; rintro e w18 ⟨rfl, hx18⟩))
          exact ⟨⟨2, by decide, rfl, Ext.trans hE (Ext.trans hx15' (Ext.trans hx16 (Ext.trans hx17 hx18)))⟩, by decide⟩
        · go_wp2
          go_ret
          exact ⟨rfl, hE⟩
  · have hin : hf ≤ n := by omega
    rcases (by omega : (x2 < (hf : Int)) ∨ (¬ x2 < (hf : Int) ∧ (n : Int) < x2) ∨ (¬ x2 < (hf : Int) ∧ ¬ (n : Int) < x2)) with c2 | ⟨c2, c2'⟩ | ⟨c2, c2'⟩
    · obtain ⟨L1, hL1e⟩ : ∃ L, L = l.take hf := ⟨_, rfl⟩
      obtain ⟨L2, hL2e⟩ : ∃ L, L = (l.drop hf).take (n - hf) := ⟨_, rfl⟩
      obtain ⟨L3, hL3e⟩ : ∃ L, L = l.drop n := ⟨_, rfl⟩
      have hcat : Hid ([] ++ L1 ++ L2 ++ L3 = l) := Lib.hid (by
        rw [hL1e, hL2e, hL3e]
        have e1 : l.drop n = (l.drop hf).drop (n - hf) := by rw [List.drop_drop]; congr 1; omega
        rw [e1, List.nil_append, List.append_assoc, List.take_append_drop, List.take_append_drop])
      have hL1 : L1.length = hf := by rw [hL1e, List.length_take]; omega
      have hL2 : L2.length = n - hf := by rw [hL2e, List.length_take, List.length_drop]; omega
      have hL3 : L3.length = 0 := by rw [hL3e, List.length_drop]; omega
      have r1 : ∀ w', Ext w w' → Rd w' A (L1.map bv) := fun w' hx => by rw [hL1e, List.map_take]; exact (hr.ext hx).take hf
      have r2 : ∀ w', Ext w w' → Rd w' (cutA A hf cap 1) (L2.map bv) := fun w' hx => by
        rw [hL2e, List.map_take, List.map_drop]
        exact (Rd.cutA_ (hr.ext hx) (by rw [List.length_map]; omega)).take _
      have r3 : ∀ w', Ext w w' → Rd w' (cutA A n cap 1) (L3.map bv) := fun w' hx => by
        rw [hL3e, List.map_drop]
        exact Rd.cutA_ (hr.ext hx) (by rw [List.length_map]; omega)
      have hicap : hf ≤ cap := by omega
      have hkcap : n ≤ cap := by omega
      have f1 : (hf : Int) ≤ (cap : Int) := by omega
      have f2 : (n : Int) ≤ (cap : Int) := by omega
      have f3 : (hf : Int) ≤ (n : Int) := by omega
      have f4 : (n : Int) ≤ (n : Int) := by omega
      have n1 : ¬ n < hf := by omega
      have n2 : ¬ n < n := by omega
      have n3 : ¬ n < hf := by omega
      clear hL1e hL2e hL3e
      obtain ⟨D32, hD32⟩ : ∃ D, D = hash32 l := ⟨_, rfl⟩
      obtain ⟨D64, hD64⟩ : ∃ D, D = hash64 l := ⟨_, rfl⟩
      obtain ⟨P32, hP32⟩ : ∃ D, D = hash32 L1 := ⟨_, rfl⟩
      obtain ⟨P64, hP64⟩ : ∃ D, D = hash64 L1 := ⟨_, rfl⟩
      have lD32 : D32.length = 32 := by rw [hD32]; exact outAt_len32 l
      have lD64 : D64.length = 64 := by rw [hD64]; exact outAt_len64 l
      have lP32 : P32.length = 32 := by rw [hP32]; exact outAt_len32 L1
      have lP64 : P64.length = 64 := by rw [hP64]; exact outAt_len64 L1
      have kN0 := fun B b w h1 h2 => sumn_any B b ([] ++ L1) w h1 (by simp; omega) h2
      have kN1 := fun B b w h1 h2 => sumn_any B b l w h1 (by omega) h2
      have kW0 := fun B b w h1 h2 => sumw_any B b ([] ++ L1) w h1 (by simp; omega) h2
      have kW1 := fun B b w h1 h2 => sumw_any B b l w h1 (by omega) h2
      have kA := fun w h1 (h2 : Tabs w) => sum256_any A n cap l w hlen hle h1 (by omega) h2.1
      have kB := fun w h1 (h2 : Tabs w) => sum512_any A n cap l w hlen hle h1 (by omega) h2.2
      have kC := fun w h1 (h2 : Tabs w) => sum256_any A hf cap L1 w hL1 hicap h1 (by omega) h2.1
      have kD := fun w h1 (h2 : Tabs w) => sum512_any A hf cap L1 w hL1 hicap h1 (by omega) h2.2
      rw [List.nil_append] at kN0 kW0 hcat
      rw [← hP32] at kN0 kC
      rw [← hP64] at kW0 kD
      rw [← hD32] at kN1 kA
      rw [← hD64] at kW1 kB
      clear hD32 hD64 hP32 hP64
      go_enter Tryd.func5, Tryd.ntmps5
      go_wp2_with (go_at_call 6; with_reducible refine hs.mono ?_; rintro e w0 ⟨rfl, hx0⟩)
      go_loopw [11] (fun t11 wr => ∃ r : Nat, r ≤ 2 ∧ t11 = .int .i64 r ∧ Ext w wr) (fun t11 _ => 2 - (intOf t11).toNat)
      case atStart => exact ⟨0, by decide, rfl, hx0⟩
      case round =>
        obtain ⟨r, hr2, rfl, hE⟩ := hrel
        rcases (by omega : r = 0 ∨ r = 1 ∨ r = 2) with rfl | rfl | rfl
        · go_wp2_with (first
                | (go_at_call 12; with_reducible refine (new_any false _).mono ?_; rintro e w1 ⟨rfl, hH1, hx1⟩)
                | (go_at_call 13; with_reducible refine (write_any wr.heap.size wr.heap.size false [] A hf cap L1 w1 hH1 hL1 (r1 _ (Ext.trans hE hx1)) (by simp; omega) hx1.size).mono ?_; rintro e w2 ⟨rfl, hH2, hb2, -⟩; rw [List.nil_append] at hH2; have hx2 : Ext wr w2 := Below.trans hx1 hb2)
                | (go_at_call 14; with_reducible refine (kN0 wr.heap.size wr.heap.size w2 hH2 (hT.ext (Ext.trans hE hx2))).mono ?_; rintro e w3 ⟨m1, rfl, hm1, hx3⟩; have hx3' : Ext wr w3 := Ext.trans hx2 hx3; have hH3 := hH2.ext hx3; have hne1 := hH3.ne_row hm1 (by decide))
                | (go_at_call 13; with_reducible refine (write_any wr.heap.size wr.heap.size false L1 (cutA A hf cap 1) (n - hf) (cap - hf) L2 w3 hH3 hL2 (r2 _ (Ext.trans hE hx3')) (by omega) hx3'.size).mono ?_; rintro e w4 ⟨rfl, hH4, hb4, ho4⟩; have hx4 : Ext wr w4 := Below.trans hx3' hb4; have hm2 := ho4.row hm1 hne1 (by decide); have hne2 := hH4.ne_row hm2 (by decide))
                | (go_at_call 13; with_reducible refine (write_any wr.heap.size wr.heap.size false (L1 ++ L2) (cutA A n cap 1) 0 (cap - n) L3 w4 hH4 hL3 (r3 _ (Ext.trans hE hx4)) (by rw [List.length_append]; omega) hx4.size).mono ?_; rintro e w5 ⟨rfl, hH5, hb5, ho5⟩; have hx5 : Ext wr w5 := Below.trans hx4 hb5; have hm3 := ho5.row hm2 hne2 (by decide); rw [hcat.out] at hH5)
                | (go_at_call 14; with_reducible refine (kN1 wr.heap.size wr.heap.size w5 hH5 (hT.ext (Ext.trans hE hx5))).mono ?_; rintro e w6 ⟨mx, rfl, hmx, hx6⟩; have hx6' : Ext wr w6 := Ext.trans hx5 hx6; have hm4 := hm3.ext hx6; have hH6 := hH5.ext hx6)
                | (go_at_call 14; with_reducible refine (kN1 wr.heap.size wr.heap.size w6 hH6 (hT.ext (Ext.trans hE hx6'))).mono ?_; rintro e w7 ⟨my, rfl, hmy, hx7⟩; have hx7' : Ext wr w7 := Ext.trans hx6' hx7; have hmx2 := hmx.ext hx7; have hm5 := hm4.ext hx7)
                | (go_at_call 7; with_reducible refine (kA w7 (hr.ext (Ext.trans hE hx7')) (hT.ext (Ext.trans hE hx7'))).mono ?_; rintro e w8 ⟨rfl, hx8⟩)
                | ((with_reducible refine store_fresh32 ?_ (.tmp 16) (.tmp 75) ?_ D32 lD32 ?_ ?_ ?_); rfl; rfl; rfl; rfl; intro w9 ho16 hx9; have hx9' : Ext wr w9 := Ext.trans hx7' (Ext.trans hx8 hx9))
                | (go_at_call 8; with_reducible refine (kB w9 (hr.ext (Ext.trans hE hx9')) (hT.ext (Ext.trans hE hx9'))).mono ?_; rintro e w10 ⟨rfl, hx10⟩)
                | ((with_reducible refine store_fresh64 ?_ (.tmp 17) (.tmp 77) ?_ D64 lD64 ?_ ?_ ?_); rfl; rfl; rfl; rfl; intro w11 ho17 hx11; have hx11' : Ext wr w11 := Ext.trans hx9' (Ext.trans hx10 hx11))
                | (go_at_call 7; with_reducible refine (kC w11 (r1 _ (Ext.trans hE hx11')) (hT.ext (Ext.trans hE hx11'))).mono ?_; rintro e w12 ⟨rfl, hx12⟩)
                | ((with_reducible refine store_fresh32 ?_ (.tmp 18) (.tmp 81) ?_ P32 lP32 ?_ ?_ ?_); rfl; rfl; rfl; rfl; intro w13 ho18 hx13; have hx13' : Ext wr w13 := Ext.trans hx11' (Ext.trans hx12 hx13))
                | (go_at_call 8; with_reducible refine (kD w13 (r1 _ (Ext.trans hE hx13')) (hT.ext (Ext.trans hE hx13'))).mono ?_; rintro e w14 ⟨rfl, hx14⟩)
                | ((with_reducible refine store_fresh64 ?_ (.tmp 19) (.tmp 85) ?_ P64 lP64 ?_ ?_ ?_); rfl; rfl; rfl; rfl; intro w15 ho19 hx15; have hx15' : Ext wr w15 := Ext.trans hx13' (Ext.trans hx14 hx15); have gx := rowrd32 ((((((hmx2.ext hx8).ext hx9).ext hx10).ext hx11).ext hx12).ext hx13 |>.ext hx14 |>.ext hx15); have gy := rowrd32 ((((((hmy.ext hx8).ext hx9).ext hx10).ext hx11).ext hx12).ext hx13 |>.ext hx14 |>.ext hx15); have gm := rowrd32 ((((((hm5.ext hx8).ext hx9).ext hx10).ext hx11).ext hx12).ext hx13 |>.ext hx14 |>.ext hx15); have g16 := rowrd32 ((((ho16.ext hx10).ext hx11).ext hx12).ext hx13 |>.ext hx14 |>.ext hx15); have g17 := rowrd64 (((ho17.ext hx12).ext hx13).ext hx14 |>.ext hx15); have g18 := rowrd32 ((ho18.ext hx14).ext hx15); have g19 := rowrd64 ho19)
                | (go_at_call 9; with_reducible refine (hsame32 D32 lD32 _ _ _ gx g16).mono ?_; rintro e w16 ⟨rfl, hx16⟩)
                | (go_at_call 9; with_reducible refine (hsame32 D32 lD32 _ _ _ (gy.ext hx16) (g16.ext hx16)).mono ?_; rintro e w17 ⟨rfl, hx17⟩)
                | (go_at_call 9; with_reducible refine (hsame32 P32 lP32 _ _ _ (gm.ext (Ext.trans hx16 hx17)) (g18.ext (Ext.trans hx16 hx17))).mono ?_; rintro e w18 ⟨rfl, hx18⟩))
          exact ⟨⟨1, by decide, rfl, Ext.trans hE (Ext.trans hx15' (Ext.trans hx16 (Ext.trans hx17 hx18)))⟩, by decide⟩
        · go_wp2_with (first
                | (go_at_call 12; with_reducible refine (new_any true _).mono ?_; rintro e w1 ⟨rfl, hH1, hx1⟩)
                | (go_at_call 13; with_reducible refine (write_any wr.heap.size wr.heap.size true [] A hf cap L1 w1 hH1 hL1 (r1 _ (Ext.trans hE hx1)) (by simp; omega) hx1.size).mono ?_; rintro e w2 ⟨rfl, hH2, hb2, -⟩; rw [List.nil_append] at hH2; have hx2 : Ext wr w2 := Below.trans hx1 hb2)
                | (go_at_call 14; with_reducible refine (kW0 wr.heap.size wr.heap.size w2 hH2 (hT.ext (Ext.trans hE hx2))).mono ?_; rintro e w3 ⟨m1, rfl, hm1, hx3⟩; have hx3' : Ext wr w3 := Ext.trans hx2 hx3; have hH3 := hH2.ext hx3; have hne1 := hH3.ne_row hm1 (by decide))
                | (go_at_call 13; with_reducible refine (write_any wr.heap.size wr.heap.size true L1 (cutA A hf cap 1) (n - hf) (cap - hf) L2 w3 hH3 hL2 (r2 _ (Ext.trans hE hx3')) (by omega) hx3'.size).mono ?_; rintro e w4 ⟨rfl, hH4, hb4, ho4⟩; have hx4 : Ext wr w4 := Below.trans hx3' hb4; have hm2 := ho4.row hm1 hne1 (by decide); have hne2 := hH4.ne_row hm2 (by decide))
                | (go_at_call 13; with_reducible refine (write_any wr.heap.size wr.heap.size true (L1 ++ L2) (cutA A n cap 1) 0 (cap - n) L3 w4 hH4 hL3 (r3 _ (Ext.trans hE hx4)) (by rw [List.length_append]; omega) hx4.size).mono ?_; rintro e w5 ⟨rfl, hH5, hb5, ho5⟩; have hx5 : Ext wr w5 := Below.trans hx4 hb5; have hm3 := ho5.row hm2 hne2 (by decide); rw [hcat.out] at hH5)
                | (go_at_call 14; with_reducible refine (kW1 wr.heap.size wr.heap.size w5 hH5 (hT.ext (Ext.trans hE hx5))).mono ?_; rintro e w6 ⟨mx, rfl, hmx, hx6⟩; have hx6' : Ext wr w6 := Ext.trans hx5 hx6; have hm4 := hm3.ext hx6; have hH6 := hH5.ext hx6)
                | (go_at_call 14; with_reducible refine (kW1 wr.heap.size wr.heap.size w6 hH6 (hT.ext (Ext.trans hE hx6'))).mono ?_; rintro e w7 ⟨my, rfl, hmy, hx7⟩; have hx7' : Ext wr w7 := Ext.trans hx6' hx7; have hmx2 := hmx.ext hx7; have hm5 := hm4.ext hx7)
                | (go_at_call 7; with_reducible refine (kA w7 (hr.ext (Ext.trans hE hx7')) (hT.ext (Ext.trans hE hx7'))).mono ?_; rintro e w8 ⟨rfl, hx8⟩)
                | ((with_reducible refine store_fresh32 ?_ (.tmp 16) (.tmp 75) ?_ D32 lD32 ?_ ?_ ?_); rfl; rfl; rfl; rfl; intro w9 ho16 hx9; have hx9' : Ext wr w9 := Ext.trans hx7' (Ext.trans hx8 hx9))
                | (go_at_call 8; with_reducible refine (kB w9 (hr.ext (Ext.trans hE hx9')) (hT.ext (Ext.trans hE hx9'))).mono ?_; rintro e w10 ⟨rfl, hx10⟩)
                | ((with_reducible refine store_fresh64 ?_ (.tmp 17) (.tmp 77) ?_ D64 lD64 ?_ ?_ ?_); rfl; rfl; rfl; rfl; intro w11 ho17 hx11; have hx11' : Ext wr w11 := Ext.trans hx9' (Ext.trans hx10 hx11))
                | (go_at_call 7; with_reducible refine (kC w11 (r1 _ (Ext.trans hE hx11')) (hT.ext (Ext.trans hE hx11'))).mono ?_; rintro e w12 ⟨rfl, hx12⟩)
                | ((with_reducible refine store_fresh32 ?_ (.tmp 18) (.tmp 81) ?_ P32 lP32 ?_ ?_ ?_); rfl; rfl; rfl; rfl; intro w13 ho18 hx13; have hx13' : Ext wr w13 := Ext.trans hx11' (Ext.trans hx12 hx13))
                | (go_at_call 8; with_reducible refine (kD w13 (r1 _ (Ext.trans hE hx13')) (hT.ext (Ext.trans hE hx13'))).mono ?_; rintro e w14 ⟨rfl, hx14⟩)
                | ((with_reducible refine store_fresh64 ?_ (.tmp 19) (.tmp 85) ?_ P64 lP64 ?_ ?_ ?_); rfl; rfl; rfl; rfl; intro w15 ho19 hx15; have hx15' : Ext wr w15 := Ext.trans hx13' (Ext.trans hx14 hx15); have gx := rowrd64 ((((((hmx2.ext hx8).ext hx9).ext hx10).ext hx11).ext hx12).ext hx13 |>.ext hx14 |>.ext hx15); have gy := rowrd64 ((((((hmy.ext hx8).ext hx9).ext hx10).ext hx11).ext hx12).ext hx13 |>.ext hx14 |>.ext hx15); have gm := rowrd64 ((((((hm5.ext hx8).ext hx9).ext hx10).ext hx11).ext hx12).ext hx13 |>.ext hx14 |>.ext hx15); have g16 := rowrd32 ((((ho16.ext hx10).ext hx11).ext hx12).ext hx13 |>.ext hx14 |>.ext hx15); have g17 := rowrd64 (((ho17.ext hx12).ext hx13).ext hx14 |>.ext hx15); have g18 := rowrd32 ((ho18.ext hx14).ext hx15); have g19 := rowrd64 ho19)
                | (go_at_call 9; with_reducible refine (hsame64 D64 lD64 _ _ _ gx g17).mono ?_; rintro e w16 ⟨rfl, hx16⟩)
                | (go_at_call 9; with_reducible refine (hsame64 D64 lD64 _ _ _ (gy.ext hx16) (g17.ext hx16)).mono ?_; rintro e w17 ⟨rfl, hx17⟩)
                | (go_at_call 9; with_reducible refine (hsame64 P64 lP64 _ _ _ (gm.ext (Ext.trans hx16 hx17)) (g19.ext (Ext.trans hx16 hx17))).mono ?_; rintro e w18 ⟨rfl, hx18⟩))
          exact ⟨⟨2, by decide, rfl, Ext.trans hE (Ext.trans hx15' (Ext.trans hx16 (Ext.trans hx17 hx18)))⟩, by decide⟩
        · go_wp2
          go_ret
          exact ⟨rfl, hE⟩
    · obtain ⟨L1, hL1e⟩ : ∃ L, L = l.take hf := ⟨_, rfl⟩
      obtain ⟨L2, hL2e⟩ : ∃ L, L = (l.drop hf).take (n - hf) := ⟨_, rfl⟩
      obtain ⟨L3, hL3e⟩ : ∃ L, L = l.drop n := ⟨_, rfl⟩
      have hcat : Hid ([] ++ L1 ++ L2 ++ L3 = l) := Lib.hid (by
        rw [hL1e, hL2e, hL3e]
        have e1 : l.drop n = (l.drop hf).drop (n - hf) := by rw [List.drop_drop]; congr 1; omega
        rw [e1, List.nil_append, List.append_assoc, List.take_append_drop, List.take_append_drop])
      have hL1 : L1.length = hf := by rw [hL1e, List.length_take]; omega
      have hL2 : L2.length = n - hf := by rw [hL2e, List.length_take, List.length_drop]; omega
      have hL3 : L3.length = 0 := by rw [hL3e, List.length_drop]; omega
      have r1 : ∀ w', Ext w w' → Rd w' A (L1.map bv) := fun w' hx => by rw [hL1e, List.map_take]; exact (hr.ext hx).take hf
      have r2 : ∀ w', Ext w w' → Rd w' (cutA A hf cap 1) (L2.map bv) := fun w' hx => by
        rw [hL2e, List.map_take, List.map_drop]
        exact (Rd.cutA_ (hr.ext hx) (by rw [List.length_map]; omega)).take _
      have r3 : ∀ w', Ext w w' → Rd w' (cutA A n cap 1) (L3.map bv) := fun w' hx => by
        rw [hL3e, List.map_drop]
        exact Rd.cutA_ (hr.ext hx) (by rw [List.length_map]; omega)
      have hicap : hf ≤ cap := by omega
      have hkcap : n ≤ cap := by omega
      have f1 : (hf : Int) ≤ (cap : Int) := by omega
      have f2 : (n : Int) ≤ (cap : Int) := by omega
      have f3 : (hf : Int) ≤ (n : Int) := by omega
      have f4 : (n : Int) ≤ (n : Int) := by omega
      have n1 : ¬ n < hf := by omega
      have n2 : ¬ n < n := by omega
      have n3 : ¬ n < hf := by omega
      clear hL1e hL2e hL3e
      obtain ⟨D32, hD32⟩ : ∃ D, D = hash32 l := ⟨_, rfl⟩
      obtain ⟨D64, hD64⟩ : ∃ D, D = hash64 l := ⟨_, rfl⟩
      obtain ⟨P32, hP32⟩ : ∃ D, D = hash32 L1 := ⟨_, rfl⟩
      obtain ⟨P64, hP64⟩ : ∃ D, D = hash64 L1 := ⟨_, rfl⟩
      have lD32 : D32.length = 32 := by rw [hD32]; exact outAt_len32 l
      have lD64 : D64.length = 64 := by rw [hD64]; exact outAt_len64 l
      have lP32 : P32.length = 32 := by rw [hP32]; exact outAt_len32 L1
      have lP64 : P64.length = 64 := by rw [hP64]; exact outAt_len64 L1
      have kN0 := fun B b w h1 h2 => sumn_any B b ([] ++ L1) w h1 (by simp; omega) h2
      have kN1 := fun B b w h1 h2 => sumn_any B b l w h1 (by omega) h2
      have kW0 := fun B b w h1 h2 => sumw_any B b ([] ++ L1) w h1 (by simp; omega) h2
      have kW1 := fun B b w h1 h2 => sumw_any B b l w h1 (by omega) h2
      have kA := fun w h1 (h2 : Tabs w) => sum256_any A n cap l w hlen hle h1 (by omega) h2.1
      have kB := fun w h1 (h2 : Tabs w) => sum512_any A n cap l w hlen hle h1 (by omega) h2.2
      have kC := fun w h1 (h2 : Tabs w) => sum256_any A hf cap L1 w hL1 hicap h1 (by omega) h2.1
      have kD := fun w h1 (h2 : Tabs w) => sum512_any A hf cap L1 w hL1 hicap h1 (by omega) h2.2
      rw [List.nil_append] at kN0 kW0 hcat
      rw [← hP32] at kN0 kC
      rw [← hP64] at kW0 kD
      rw [← hD32] at kN1 kA
      rw [← hD64] at kW1 kB
      clear hD32 hD64 hP32 hP64
      go_enter Tryd.func5, Tryd.ntmps5
      go_wp2_with (go_at_call 6; with_reducible refine hs.mono ?_; rintro e w0 ⟨rfl, hx0⟩)
      go_loopw [11] (fun t11 wr => ∃ r : Nat, r ≤ 2 ∧ t11 = .int .i64 r ∧ Ext w wr) (fun t11 _ => 2 - (intOf t11).toNat)
      case atStart => exact ⟨0, by decide, rfl, hx0⟩
      case round =>
        obtain ⟨r, hr2, rfl, hE⟩ := hrel
        rcases (by omega : r = 0 ∨ r = 1 ∨ r = 2) with rfl | rfl | rfl
        · go_wp2_with (first
                | (go_at_call 12; with_reducible refine (new_any false _).mono ?_; rintro e w1 ⟨rfl, hH1, hx1⟩)
                | (go_at_call 13; with_reducible refine (write_any wr.heap.size wr.heap.size false [] A hf cap L1 w1 hH1 hL1 (r1 _ (Ext.trans hE hx1)) (by simp; omega) hx1.size).mono ?_; rintro e w2 ⟨rfl, hH2, hb2, -⟩; rw [List.nil_append] at hH2; have hx2 : Ext wr w2 := Below.trans hx1 hb2)
                | (go_at_call 14; with_reducible refine (kN0 wr.heap.size wr.heap.size w2 hH2 (hT.ext (Ext.trans hE hx2))).mono ?_; rintro e w3 ⟨m1, rfl, hm1, hx3⟩; have hx3' : Ext wr w3 := Ext.trans hx2 hx3; have hH3 := hH2.ext hx3; have hne1 := hH3.ne_row hm1 (by decide))
                | (go_at_call 13; with_reducible refine (write_any wr.heap.size wr.heap.size false L1 (cutA A hf cap 1) (n - hf) (cap - hf) L2 w3 hH3 hL2 (r2 _ (Ext.trans hE hx3')) (by omega) hx3'.size).mono ?_; rintro e w4 ⟨rfl, hH4, hb4, ho4⟩; have hx4 : Ext wr w4 := Below.trans hx3' hb4; have hm2 := ho4.row hm1 hne1 (by decide); have hne2 := hH4.ne_row hm2 (by decide))
                | (go_at_call 13; with_reducible refine (write_any wr.heap.size wr.heap.size false (L1 ++ L2) (cutA A n cap 1) 0 (cap - n) L3 w4 hH4 hL3 (r3 _ (Ext.trans hE hx4)) (by rw [List.length_append]; omega) hx4.size).mono ?_; rintro e w5 ⟨rfl, hH5, hb5, ho5⟩; have hx5 : Ext wr w5 := Below.trans hx4 hb5; have hm3 := ho5.row hm2 hne2 (by decide); rw [hcat.out] at hH5)
                | (go_at_call 14; with_reducible refine (kN1 wr.heap.size wr.heap.size w5 hH5 (hT.ext (Ext.trans hE hx5))).mono ?_; rintro e w6 ⟨mx, rfl, hmx, hx6⟩; have hx6' : Ext wr w6 := Ext.trans hx5 hx6; have hm4 := hm3.ext hx6; have hH6 := hH5.ext hx6)
                | (go_at_call 14; with_reducible refine (kN1 wr.heap.size wr.heap.size w6 hH6 (hT.ext (Ext.trans hE hx6'))).mono ?_; rintro e w7 ⟨my, rfl, hmy, hx7⟩; have hx7' : Ext wr w7 := Ext.trans hx6' hx7; have hmx2 := hmx.ext hx7; have hm5 := hm4.ext hx7)
                | (go_at_call 7; with_reducible refine (kA w7 (hr.ext (Ext.trans hE hx7')) (hT.ext (Ext.trans hE hx7'))).mono ?_; rintro e w8 ⟨rfl, hx8⟩)
                | ((with_reducible refine store_fresh32 ?_ (.tmp 16) (.tmp 75) ?_ D32 lD32 ?_ ?_ ?_); rfl; rfl; rfl; rfl; intro w9 ho16 hx9; have hx9' : Ext wr w9 := Ext.trans hx7' (Ext.trans hx8 hx9))
                | (go_at_call 8; with_reducible refine (kB w9 (hr.ext (Ext.trans hE hx9')) (hT.ext (Ext.trans hE hx9'))).mono ?_; rintro e w10 ⟨rfl, hx10⟩)
                | ((with_reducible refine store_fresh64 ?_ (.tmp 17) (.tmp 77) ?_ D64 lD64 ?_ ?_ ?_); rfl; rfl; rfl; rfl; intro w11 ho17 hx11; have hx11' : Ext wr w11 := Ext.trans hx9' (Ext.trans hx10 hx11))
                | (go_at_call 7; with_reducible refine (kC w11 (r1 _ (Ext.trans hE hx11')) (hT.ext (Ext.trans hE hx11'))).mono ?_; rintro e w12 ⟨rfl, hx12⟩)
                | ((with_reducible refine store_fresh32 ?_ (.tmp 18) (.tmp 81) ?_ P32 lP32 ?_ ?_ ?_); rfl; rfl; rfl; rfl; intro w13 ho18 hx13; have hx13' : Ext wr w13 := Ext.trans hx11' (Ext.trans hx12 hx13))
                | (go_at_call 8; with_reducible refine (kD w13 (r1 _ (Ext.trans hE hx13')) (hT.ext (Ext.trans hE hx13'))).mono ?_; rintro e w14 ⟨rfl, hx14⟩)
                | ((with_reducible refine store_fresh64 ?_ (.tmp 19) (.tmp 85) ?_ P64 lP64 ?_ ?_ ?_); rfl; rfl; rfl; rfl; intro w15 ho19 hx15; have hx15' : Ext wr w15 := Ext.trans hx13' (Ext.trans hx14 hx15); have gx := rowrd32 ((((((hmx2.ext hx8).ext hx9).ext hx10).ext hx11).ext hx12).ext hx13 |>.ext hx14 |>.ext hx15); have gy := rowrd32 ((((((hmy.ext hx8).ext hx9).ext hx10).ext hx11).ext hx12).ext hx13 |>.ext hx14 |>.ext hx15); have gm := rowrd32 ((((((hm5.ext hx8).ext hx9).ext hx10).ext hx11).ext hx12).ext hx13 |>.ext hx14 |>.ext hx15); have g16 := rowrd32 ((((ho16.ext hx10).ext hx11).ext hx12).ext hx13 |>.ext hx14 |>.ext hx15); have g17 := rowrd64 (((ho17.ext hx12).ext hx13).ext hx14 |>.ext hx15); have g18 := rowrd32 ((ho18.ext hx14).ext hx15); have g19 := rowrd64 ho19)
                | (go_at_call 9; with_reducible refine (hsame32 D32 lD32 _ _ _ gx g16).mono ?_; rintro e w16 ⟨rfl, hx16⟩)
                | (go_at_call 9; with_reducible refine (hsame32 D32 lD32 _ _ _ (gy.ext hx16) (g16.ext hx16)).mono ?_; rintro e w17 ⟨rfl, hx17⟩)
                | (go_at_call 9; with_reducible refine (hsame32 P32 lP32 _ _ _ (gm.ext (Ext.trans hx16 hx17)) (g18.ext (Ext.trans hx16 hx17))).mono ?_; rintro e w18 ⟨rfl, hx18⟩))
          exact ⟨⟨1, by decide, rfl, Ext.trans hE (Ext.trans hx15' (Ext.trans hx16 (Ext.trans hx17 hx18)))⟩, by decide⟩
        · go_wp2_with (first
                | (go_at_call 12; with_reducible refine (new_any true _).mono ?_; rintro e w1 ⟨rfl, hH1, hx1⟩)
                | (go_at_call 13; with_reducible refine (write_any wr.heap.size wr.heap.size true [] A hf cap L1 w1 hH1 hL1 (r1 _ (Ext.trans hE hx1)) (by simp; omega) hx1.size).mono ?_; rintro e w2 ⟨rfl, hH2, hb2, -⟩; rw [List.nil_append] at hH2; have hx2 : Ext wr w2 := Below.trans hx1 hb2)
                | (go_at_call 14; with_reducible refine (kW0 wr.heap.size wr.heap.size w2 hH2 (hT.ext (Ext.trans hE hx2))).mono ?_; rintro e w3 ⟨m1, rfl, hm1, hx3⟩; have hx3' : Ext wr w3 := Ext.trans hx2 hx3; have hH3 := hH2.ext hx3; have hne1 := hH3.ne_row hm1 (by decide))
                | (go_at_call 13; with_reducible refine (write_any wr.heap.size wr.heap.size true L1 (cutA A hf cap 1) (n - hf) (cap - hf) L2 w3 hH3 hL2 (r2 _ (Ext.trans hE hx3')) (by omega) hx3'.size).mono ?_; rintro e w4 ⟨rfl, hH4, hb4, ho4⟩; have hx4 : Ext wr w4 := Below.trans hx3' hb4; have hm2 := ho4.row hm1 hne1 (by decide); have hne2 := hH4.ne_row hm2 (by decide))
                | (go_at_call 13; with_reducible refine (write_any wr.heap.size wr.heap.size true (L1 ++ L2) (cutA A n cap 1) 0 (cap - n) L3 w4 hH4 hL3 (r3 _ (Ext.trans hE hx4)) (by rw [List.length_append]; omega) hx4.size).mono ?_; rintro e w5 ⟨rfl, hH5, hb5, ho5⟩; have hx5 : Ext wr w5 := Below.trans hx4 hb5; have hm3 := ho5.row hm2 hne2 (by decide); rw [hcat.out] at hH5)
                | (go_at_call 14; with_reducible refine (kW1 wr.heap.size wr.heap.size w5 hH5 (hT.ext (Ext.trans hE hx5))).mono ?_; rintro e w6 ⟨mx, rfl, hmx, hx6⟩; have hx6' : Ext wr w6 := Ext.trans hx5 hx6; have hm4 := hm3.ext hx6; have hH6 := hH5.ext hx6)
                | (go_at_call 14; with_reducible refine (kW1 wr.heap.size wr.heap.size w6 hH6 (hT.ext (Ext.trans hE hx6'))).mono ?_; rintro e w7 ⟨my, rfl, hmy, hx7⟩; have hx7' : Ext wr w7 := Ext.trans hx6' hx7; have hmx2 := hmx.ext hx7; have hm5 := hm4.ext hx7)
                | (go_at_call 7; with_reducible refine (kA w7 (hr.ext (Ext.trans hE hx7')) (hT.ext (Ext.trans hE hx7'))).mono ?_; rintro e w8 ⟨rfl, hx8⟩)
                | ((with_reducible refine store_fresh32 ?_ (.tmp 16) (.tmp 75) ?_ D32 lD32 ?_ ?_ ?_); rfl; rfl; rfl; rfl; intro w9 ho16 hx9; have hx9' : Ext wr w9 := Ext.trans hx7' (Ext.trans hx8 hx9))
                | (go_at_call 8; with_reducible refine (kB w9 (hr.ext (Ext.trans hE hx9')) (hT.ext (Ext.trans hE hx9'))).mono ?_; rintro e w10 ⟨rfl, hx10⟩)
                | ((with_reducible refine store_fresh64 ?_ (.tmp 17) (.tmp 77) ?_ D64 lD64 ?_ ?_ ?_); rfl; rfl; rfl; rfl; intro w11 ho17 hx11; have hx11' : Ext wr w11 := Ext.trans hx9' (Ext.trans hx10 hx11))
                | (go_at_call 7; with_reducible refine (kC w11 (r1 _ (Ext.trans hE hx11')) (hT.ext (Ext.trans hE hx11'))).mono ?_; rintro e w12 ⟨rfl, hx12⟩)
                | ((with_reducible refine store_fresh32 ?_ (.tmp 18) (.tmp 81) ?_ P32 lP32 ?_ ?_ ?_); rfl; rfl; rfl; rfl; intro w13 ho18 hx13; have hx13' : Ext wr w13 := Ext.trans hx11' (Ext.trans hx12 hx13))
                | (go_at_call 8; with_reducible refine (kD w13 (r1 _ (Ext.trans hE hx13')) (hT.ext (Ext.trans hE hx13'))).mono ?_; rintro e w14 ⟨rfl, hx14⟩)
                | ((with_reducible refine store_fresh64 ?_ (.tmp 19) (.tmp 85) ?_ P64 lP64 ?_ ?_ ?_); rfl; rfl; rfl; rfl; intro w15 ho19 hx15; have hx15' : Ext wr w15 := Ext.trans hx13' (Ext.trans hx14 hx15); have gx := rowrd64 ((((((hmx2.ext hx8).ext hx9).ext hx10).ext hx11).ext hx12).ext hx13 |>.ext hx14 |>.ext hx15); have gy := rowrd64 ((((((hmy.ext hx8).ext hx9).ext hx10).ext hx11).ext hx12).ext hx13 |>.ext hx14 |>.ext hx15); have gm := rowrd64 ((((((hm5.ext hx8).ext hx9).ext hx10).ext hx11).ext hx12).ext hx13 |>.ext hx14 |>.ext hx15); have g16 := rowrd32 ((((ho16.ext hx10).ext hx11).ext hx12).ext hx13 |>.ext hx14 |>.ext hx15); have g17 := rowrd64 (((ho17.ext hx12).ext hx13).ext hx14 |>.ext hx15); have g18 := rowrd32 ((ho18.ext hx14).ext hx15); have g19 := rowrd64 ho19)
                | (go_at_call 9; with_reducible refine (hsame64 D64 lD64 _ _ _ gx g17).mono ?_; rintro e w16 ⟨rfl, hx16⟩)
                | (go_at_call 9; with_reducible refine (hsame64 D64 lD64 _ _ _ (gy.ext hx16) (g17.ext hx16)).mono ?_; rintro e w17 ⟨rfl, hx17⟩)
                | (go_at_call 9; with_reducible refine (hsame64 P64 lP64 _ _ _ (gm.ext (Ext.trans hx16 hx17)) (g19.ext (Ext.trans hx16 hx17))).mono ?_; rintro e w18 ⟨rfl, hx18⟩))
          exact ⟨⟨2, by decide, rfl, Ext.trans hE (Ext.trans hx15' (Ext.trans hx16 (Ext.trans hx17 hx18)))⟩, by decide⟩
        · go_wp2
          go_ret
          exact ⟨rfl, hE⟩
    · obtain ⟨k, rfl⟩ : ∃ k : Nat, x2 = (k : Int) := ⟨x2.toNat, by omega⟩
      obtain ⟨L1, hL1e⟩ : ∃ L, L = l.take hf := ⟨_, rfl⟩
      obtain ⟨L2, hL2e⟩ : ∃ L, L = (l.drop hf).take (k - hf) := ⟨_, rfl⟩
      obtain ⟨L3, hL3e⟩ : ∃ L, L = l.drop k := ⟨_, rfl⟩
      have hcat : Hid ([] ++ L1 ++ L2 ++ L3 = l) := Lib.hid (by
        rw [hL1e, hL2e, hL3e]
        have e1 : l.drop k = (l.drop hf).drop (k - hf) := by rw [List.drop_drop]; congr 1; omega
        rw [e1, List.nil_append, List.append_assoc, List.take_append_drop, List.take_append_drop])
      have hL1 : L1.length = hf := by rw [hL1e, List.length_take]; omega
      have hL2 : L2.length = k - hf := by rw [hL2e, List.length_take, List.length_drop]; omega
      have hL3 : L3.length = n - k := by rw [hL3e, List.length_drop]; omega
      have r1 : ∀ w', Ext w w' → Rd w' A (L1.map bv) := fun w' hx => by rw [hL1e, List.map_take]; exact (hr.ext hx).take hf
      have r2 : ∀ w', Ext w w' → Rd w' (cutA A hf cap 1) (L2.map bv) := fun w' hx => by
        rw [hL2e, List.map_take, List.map_drop]
        exact (Rd.cutA_ (hr.ext hx) (by rw [List.length_map]; omega)).take _
      have r3 : ∀ w', Ext w w' → Rd w' (cutA A k cap 1) (L3.map bv) := fun w' hx => by
        rw [hL3e, List.map_drop]
        exact Rd.cutA_ (hr.ext hx) (by rw [List.length_map]; omega)
      have hicap : hf ≤ cap := by omega
      have hkcap : k ≤ cap := by omega
      have f1 : (hf : Int) ≤ (cap : Int) := by omega
      have f2 : (k : Int) ≤ (cap : Int) := by omega
      have f3 : (hf : Int) ≤ (k : Int) := by omega
      have f4 : (k : Int) ≤ (n : Int) := by omega
      have n1 : ¬ k < hf := by omega
      have n2 : ¬ n < k := by omega
      have n3 : ¬ n < hf := by omega
      clear hL1e hL2e hL3e
      obtain ⟨D32, hD32⟩ : ∃ D, D = hash32 l := ⟨_, rfl⟩
      obtain ⟨D64, hD64⟩ : ∃ D, D = hash64 l := ⟨_, rfl⟩
      obtain ⟨P32, hP32⟩ : ∃ D, D = hash32 L1 := ⟨_, rfl⟩
      obtain ⟨P64, hP64⟩ : ∃ D, D = hash64 L1 := ⟨_, rfl⟩
      have lD32 : D32.length = 32 := by rw [hD32]; exact outAt_len32 l
      have lD64 : D64.length = 64 := by rw [hD64]; exact outAt_len64 l
      have lP32 : P32.length = 32 := by rw [hP32]; exact outAt_len32 L1
      have lP64 : P64.length = 64 := by rw [hP64]; exact outAt_len64 L1
      have kN0 := fun B b w h1 h2 => sumn_any B b ([] ++ L1) w h1 (by simp; omega) h2
      have kN1 := fun B b w h1 h2 => sumn_any B b l w h1 (by omega) h2
      have kW0 := fun B b w h1 h2 => sumw_any B b ([] ++ L1) w h1 (by simp; omega) h2
      have kW1 := fun B b w h1 h2 => sumw_any B b l w h1 (by omega) h2
      have kA := fun w h1 (h2 : Tabs w) => sum256_any A n cap l w hlen hle h1 (by omega) h2.1
      have kB := fun w h1 (h2 : Tabs w) => sum512_any A n cap l w hlen hle h1 (by omega) h2.2
      have kC := fun w h1 (h2 : Tabs w) => sum256_any A hf cap L1 w hL1 hicap h1 (by omega) h2.1
      have kD := fun w h1 (h2 : Tabs w) => sum512_any A hf cap L1 w hL1 hicap h1 (by omega) h2.2
      rw [List.nil_append] at kN0 kW0 hcat
      rw [← hP32] at kN0 kC
      rw [← hP64] at kW0 kD
      rw [← hD32] at kN1 kA
      rw [← hD64] at kW1 kB
      clear hD32 hD64 hP32 hP64
      go_enter Tryd.func5, Tryd.ntmps5
      go_wp2_with (go_at_call 6; with_reducible refine hs.mono ?_; rintro e w0 ⟨rfl, hx0⟩)
      go_loopw [11] (fun t11 wr => ∃ r : Nat, r ≤ 2 ∧ t11 = .int .i64 r ∧ Ext w wr) (fun t11 _ => 2 - (intOf t11).toNat)
      case atStart => exact ⟨0, by decide, rfl, hx0⟩
      case round =>
        obtain ⟨r, hr2, rfl, hE⟩ := hrel
        rcases (by omega : r = 0 ∨ r = 1 ∨ r = 2) with rfl | rfl | rfl
        · go_wp2_with (first
                | (go_at_call 12; with_reducible refine (new_any false _).mono ?_; rintro e w1 ⟨rfl, hH1, hx1⟩)
                | (go_at_call 13; with_reducible refine (write_any wr.heap.size wr.heap.size false [] A hf cap L1 w1 hH1 hL1 (r1 _ (Ext.trans hE hx1)) (by simp; omega) hx1.size).mono ?_; rintro e w2 ⟨rfl, hH2, hb2, -⟩; rw [List.nil_append] at hH2; have hx2 : Ext wr w2 := Below.trans hx1 hb2)
                | (go_at_call 14; with_reducible refine (kN0 wr.heap.size wr.heap.size w2 hH2 (hT.ext (Ext.trans hE hx2))).mono ?_; rintro e w3 ⟨m1, rfl, hm1, hx3⟩; have hx3' : Ext wr w3 := Ext.trans hx2 hx3; have hH3 := hH2.ext hx3; have hne1 := hH3.ne_row hm1 (by decide))
                | (go_at_call 13; with_reducible refine (write_any wr.heap.size wr.heap.size false L1 (cutA A hf cap 1) (k - hf) (cap - hf) L2 w3 hH3 hL2 (r2 _ (Ext.trans hE hx3')) (by omega) hx3'.size).mono ?_; rintro e w4 ⟨rfl, hH4, hb4, ho4⟩; have hx4 : Ext wr w4 := Below.trans hx3' hb4; have hm2 := ho4.row hm1 hne1 (by decide); have hne2 := hH4.ne_row hm2 (by decide))
                | (go_at_call 13; with_reducible refine (write_any wr.heap.size wr.heap.size false (L1 ++ L2) (cutA A k cap 1) (n - k) (cap - k) L3 w4 hH4 hL3 (r3 _ (Ext.trans hE hx4)) (by rw [List.length_append]; omega) hx4.size).mono ?_; rintro e w5 ⟨rfl, hH5, hb5, ho5⟩; have hx5 : Ext wr w5 := Below.trans hx4 hb5; have hm3 := ho5.row hm2 hne2 (by decide); rw [hcat.out] at hH5)
                | (go_at_call 14; with_reducible refine (kN1 wr.heap.size wr.heap.size w5 hH5 (hT.ext (Ext.trans hE hx5))).mono ?_; rintro e w6 ⟨mx, rfl, hmx, hx6⟩; have hx6' : Ext wr w6 := Ext.trans hx5 hx6; have hm4 := hm3.ext hx6; have hH6 := hH5.ext hx6)
                | (go_at_call 14; with_reducible refine (kN1 wr.heap.size wr.heap.size w6 hH6 (hT.ext (Ext.trans hE hx6'))).mono ?_; rintro e w7 ⟨my, rfl, hmy, hx7⟩; have hx7' : Ext wr w7 := Ext.trans hx6' hx7; have hmx2 := hmx.ext hx7; have hm5 := hm4.ext hx7)
                | (go_at_call 7; with_reducible refine (kA w7 (hr.ext (Ext.trans hE hx7')) (hT.ext (Ext.trans hE hx7'))).mono ?_; rintro e w8 ⟨rfl, hx8⟩)
                | ((with_reducible refine store_fresh32 ?_ (.tmp 16) (.tmp 75) ?_ D32 lD32 ?_ ?_ ?_); rfl; rfl; rfl; rfl; intro w9 ho16 hx9; have hx9' : Ext wr w9 := Ext.trans hx7' (Ext.trans hx8 hx9))
                | (go_at_call 8; with_reducible refine (kB w9 (hr.ext (Ext.trans hE hx9')) (hT.ext (Ext.trans hE hx9'))).mono ?_; rintro e w10 ⟨rfl, hx10⟩)
                | ((with_reducible refine store_fresh64 ?_ (.tmp 17) (.tmp 77) ?_ D64 lD64 ?_ ?_ ?_); rfl; rfl; rfl; rfl; intro w11 ho17 hx11; have hx11' : Ext wr w11 := Ext.trans hx9' (Ext.trans hx10 hx11))
                | (go_at_call 7; with_reducible refine (kC w11 (r1 _ (Ext.trans hE hx11')) (hT.ext (Ext.trans hE hx11'))).mono ?_; rintro e w12 ⟨rfl, hx12⟩)
                | ((with_reducible refine store_fresh32 ?_ (.tmp 18) (.tmp 81) ?_ P32 lP32 ?_ ?_ ?_); rfl; rfl; rfl; rfl; intro w13 ho18 hx13; have hx13' : Ext wr w13 := Ext.trans hx11' (Ext.trans hx12 hx13))
                | (go_at_call 8; with_reducible refine (kD w13 (r1 _ (Ext.trans hE hx13')) (hT.ext (Ext.trans hE hx13'))).mono ?_; rintro e w14 ⟨rfl, hx14⟩)
                | ((with_reducible refine store_fresh64 ?_ (.tmp 19) (.tmp 85) ?_ P64 lP64 ?_ ?_ ?_); rfl; rfl; rfl; rfl; intro w15 ho19 hx15; have hx15' : Ext wr w15 := Ext.trans hx13' (Ext.trans hx14 hx15); have gx := rowrd32 ((((((hmx2.ext hx8).ext hx9).ext hx10).ext hx11).ext hx12).ext hx13 |>.ext hx14 |>.ext hx15); have gy := rowrd32 ((((((hmy.ext hx8).ext hx9).ext hx10).ext hx11).ext hx12).ext hx13 |>.ext hx14 |>.ext hx15); have gm := rowrd32 ((((((hm5.ext hx8).ext hx9).ext hx10).ext hx11).ext hx12).ext hx13 |>.ext hx14 |>.ext hx15); have g16 := rowrd32 ((((ho16.ext hx10).ext hx11).ext hx12).ext hx13 |>.ext hx14 |>.ext hx15); have g17 := rowrd64 (((ho17.ext hx12).ext hx13).ext hx14 |>.ext hx15); have g18 := rowrd32 ((ho18.ext hx14).ext hx15); have g19 := rowrd64 ho19)
                | (go_at_call 9; with_reducible refine (hsame32 D32 lD32 _ _ _ gx g16).mono ?_; rintro e w16 ⟨rfl, hx16⟩)
                | (go_at_call 9; with_reducible refine (hsame32 D32 lD32 _ _ _ (gy.ext hx16) (g16.ext hx16)).mono ?_; rintro e w17 ⟨rfl, hx17⟩)
                | (go_at_call 9; with_reducible refine (hsame32 P32 lP32 _ _ _ (gm.ext (Ext.trans hx16 hx17)) (g18.ext (Ext.trans hx16 hx17))).mono ?_; rintro e w18 ⟨rfl, hx18⟩))
          exact ⟨⟨1, by decide, rfl, Ext.trans hE (Ext.trans hx15' (Ext.trans hx16 (Ext.trans hx17 hx18)))⟩, by decide⟩
        · go_wp2_with (first
                | (go_at_call 12; with_reducible refine (new_any true _).mono ?_; rintro e w1 ⟨rfl, hH1, hx1⟩)
                | (go_at_call 13; with_reducible refine (write_any wr.heap.size wr.heap.size true [] A hf cap L1 w1 hH1 hL1 (r1 _ (Ext.trans hE hx1)) (by simp; omega) hx1.size).mono ?_; rintro e w2 ⟨rfl, hH2, hb2, -⟩; rw [List.nil_append] at hH2; have hx2 : Ext wr w2 := Below.trans hx1 hb2)
                | (go_at_call 14; with_reducible refine (kW0 wr.heap.size wr.heap.size w2 hH2 (hT.ext (Ext.trans hE hx2))).mono ?_; rintro e w3 ⟨m1, rfl, hm1, hx3⟩; have hx3' : Ext wr w3 := Ext.trans hx2 hx3; have hH3 := hH2.ext hx3; have hne1 := hH3.ne_row hm1 (by decide))
                | (go_at_call 13; with_reducible refine (write_any wr.heap.size wr.heap.size true L1 (cutA A hf cap 1) (k - hf) (cap - hf) L2 w3 hH3 hL2 (r2 _ (Ext.trans hE hx3')) (by omega) hx3'.size).mono ?_; rintro e w4 ⟨rfl, hH4, hb4, ho4⟩; have hx4 : Ext wr w4 := Below.trans hx3' hb4; have hm2 := ho4.row hm1 hne1 (by decide); have hne2 := hH4.ne_row hm2 (by decide))
                | (go_at_call 13; with_reducible refine (write_any wr.heap.size wr.heap.size true (L1 ++ L2) (cutA A k cap 1) (n - k) (cap - k) L3 w4 hH4 hL3 (r3 _ (Ext.trans hE hx4)) (by rw [List.length_append]; omega) hx4.size).mono ?_; rintro e w5 ⟨rfl, hH5, hb5, ho5⟩; have hx5 : Ext wr w5 := Below.trans hx4 hb5; have hm3 := ho5.row hm2 hne2 (by decide); rw [hcat.out] at hH5)
                | (go_at_call 14; with_reducible refine (kW1 wr.heap.size wr.heap.size w5 hH5 (hT.ext (Ext.trans hE hx5))).mono ?_; rintro e w6 ⟨mx, rfl, hmx, hx6⟩; have hx6' : Ext wr w6 := Ext.trans hx5 hx6; have hm4 := hm3.ext hx6; have hH6 := hH5.ext hx6)
                | (go_at_call 14; with_reducible refine (kW1 wr.heap.size wr.heap.size w6 hH6 (hT.ext (Ext.trans hE hx6'))).mono ?_; rintro e w7 ⟨my, rfl, hmy, hx7⟩; have hx7' : Ext wr w7 := Ext.trans hx6' hx7; have hmx2 := hmx.ext hx7; have hm5 := hm4.ext hx7)
                | (go_at_call 7; with_reducible refine (kA w7 (hr.ext (Ext.trans hE hx7')) (hT.ext (Ext.trans hE hx7'))).mono ?_; rintro e w8 ⟨rfl, hx8⟩)
                | ((with_reducible refine store_fresh32 ?_ (.tmp 16) (.tmp 75) ?_ D32 lD32 ?_ ?_ ?_); rfl; rfl; rfl; rfl; intro w9 ho16 hx9; have hx9' : Ext wr w9 := Ext.trans hx7' (Ext.trans hx8 hx9))
                | (go_at_call 8; with_reducible refine (kB w9 (hr.ext (Ext.trans hE hx9')) (hT.ext (Ext.trans hE hx9'))).mono ?_; rintro e w10 ⟨rfl, hx10⟩)
                | ((with_reducible refine store_fresh64 ?_ (.tmp 17) (.tmp 77) ?_ D64 lD64 ?_ ?_ ?_); rfl; rfl; rfl; rfl; intro w11 ho17 hx11; have hx11' : Ext wr w11 := Ext.trans hx9' (Ext.trans hx10 hx11))
                | (go_at_call 7; with_reducible refine (kC w11 (r1 _ (Ext.trans hE hx11')) (hT.ext (Ext.trans hE hx11'))).mono ?_; rintro e w12 ⟨rfl, hx12⟩)
                | ((with_reducible refine store_fresh32 ?_ (.tmp 18) (.tmp 81) ?_ P32 lP32 ?_ ?_ ?_); rfl; rfl; rfl; rfl; intro w13 ho18 hx13; have hx13' : Ext wr w13 := Ext.trans hx11' (Ext.trans hx12 hx13))
                | (go_at_call 8; with_reducible refine (kD w13 (r1 _ (Ext.trans hE hx13')) (hT.ext (Ext.trans hE hx13'))).mono ?_; rintro e w14 ⟨rfl, hx14⟩)
                | ((with_reducible refine store_fresh64 ?_ (.tmp 19) (.tmp 85) ?_ P64 lP64 ?_ ?_ ?_); rfl; rfl; rfl; rfl; intro w15 ho19 hx15; have hx15' : Ext wr w15 := Ext.trans hx13' (Ext.trans hx14 hx15); have gx := rowrd64 ((((((hmx2.ext hx8).ext hx9).ext hx10).ext hx11).ext hx12).ext hx13 |>.ext hx14 |>.ext hx15); have gy := rowrd64 ((((((hmy.ext hx8).ext hx9).ext hx10).ext hx11).ext hx12).ext hx13 |>.ext hx14 |>.ext hx15); have gm := rowrd64 ((((((hm5.ext hx8).ext hx9).ext hx10).ext hx11).ext hx12).ext hx13 |>.ext hx14 |>.ext hx15); have g16 := rowrd32 ((((ho16.ext hx10).ext hx11).ext hx12).ext hx13 |>.ext hx14 |>.ext hx15); have g17 := rowrd64 (((ho17.ext hx12).ext hx13).ext hx14 |>.ext hx15); have g18 := rowrd32 ((ho18.ext hx14).ext hx15); have g19 := rowrd64 ho19)
                | (go_at_call 9; with_reducible refine (hsame64 D64 lD64 _ _ _ gx g17).mono ?_; rintro e w16 ⟨rfl, hx16⟩)
                | (go_at_call 9; with_reducible refine (hsame64 D64 lD64 _ _ _ (gy.ext hx16) (g17.ext hx16)).mono ?_; rintro e w17 ⟨rfl, hx17⟩)
                | (go_at_call 9; with_reducible refine (hsame64 P64 lP64 _ _ _ (gm.ext (Ext.trans hx16 hx17)) (g19.ext (Ext.trans hx16 hx17))).mono ?_; rintro e w18 ⟨rfl, hx18⟩))
          exact ⟨⟨2, by decide, rfl, Ext.trans hE (Ext.trans hx15' (Ext.trans hx16 (Ext.trans hx17 hx18)))⟩, by decide⟩
        · go_wp2
          go_ret
          exact ⟨rfl, hE⟩
  · obtain ⟨i, rfl⟩ : ∃ i : Nat, x1 = (i : Int) := ⟨x1.toNat, by omega⟩
    have hin : i ≤ n := by omega
    rcases (by omega : (x2 < (i : Int)) ∨ (¬ x2 < (i : Int) ∧ (n : Int) < x2) ∨ (¬ x2 < (i : Int) ∧ ¬ (n : Int) < x2)) with c2 | ⟨c2, c2'⟩ | ⟨c2, c2'⟩
    · obtain ⟨L1, hL1e⟩ : ∃ L, L = l.take i := ⟨_, rfl⟩
      obtain ⟨L2, hL2e⟩ : ∃ L, L = (l.drop i).take (n - i) := ⟨_, rfl⟩
      obtain ⟨L3, hL3e⟩ : ∃ L, L = l.drop n := ⟨_, rfl⟩
      have hcat : Hid ([] ++ L1 ++ L2 ++ L3 = l) := Lib.hid (by
        rw [hL1e, hL2e, hL3e]
        have e1 : l.drop n = (l.drop i).drop (n - i) := by rw [List.drop_drop]; congr 1; omega
        rw [e1, List.nil_append, List.append_assoc, List.take_append_drop, List.take_append_drop])
      have hL1 : L1.length = i := by rw [hL1e, List.length_take]; omega
      have hL2 : L2.length = n - i := by rw [hL2e, List.length_take, List.length_drop]; omega
      have hL3 : L3.length = 0 := by rw [hL3e, List.length_drop]; omega
      have r1 : ∀ w', Ext w w' → Rd w' A (L1.map bv) := fun w' hx => by rw [hL1e, List.map_take]; exact (hr.ext hx).take i
      have r2 : ∀ w', Ext w w' → Rd w' (cutA A i cap 1) (L2.map bv) := fun w' hx => by
        rw [hL2e, List.map_take, List.map_drop]
        exact (Rd.cutA_ (hr.ext hx) (by rw [List.length_map]; omega)).take _
      have r3 : ∀ w', Ext w w' → Rd w' (cutA A n cap 1) (L3.map bv) := fun w' hx => by
        rw [hL3e, List.map_drop]
        exact Rd.cutA_ (hr.ext hx) (by rw [List.length_map]; omega)
      have hicap : i ≤ cap := by omega
      have hkcap : n ≤ cap := by omega
      have f1 : (i : Int) ≤ (cap : Int) := by omega
      have f2 : (n : Int) ≤ (cap : Int) := by omega
      have f3 : (i : Int) ≤ (n : Int) := by omega
      have f4 : (n : Int) ≤ (n : Int) := by omega
      have n1 : ¬ n < i := by omega
      have n2 : ¬ n < n := by omega
      have n3 : ¬ n < i := by omega
      clear hL1e hL2e hL3e
      obtain ⟨D32, hD32⟩ : ∃ D, D = hash32 l := ⟨_, rfl⟩
      obtain ⟨D64, hD64⟩ : ∃ D, D = hash64 l := ⟨_, rfl⟩
      obtain ⟨P32, hP32⟩ : ∃ D, D = hash32 L1 := ⟨_, rfl⟩
      obtain ⟨P64, hP64⟩ : ∃ D, D = hash64 L1 := ⟨_, rfl⟩
      have lD32 : D32.length = 32 := by rw [hD32]; exact outAt_len32 l
      have lD64 : D64.length = 64 := by rw [hD64]; exact outAt_len64 l
      have lP32 : P32.length = 32 := by rw [hP32]; exact outAt_len32 L1
      have lP64 : P64.length = 64 := by rw [hP64]; exact outAt_len64 L1
      have kN0 := fun B b w h1 h2 => sumn_any B b ([] ++ L1) w h1 (by simp; omega) h2
      have kN1 := fun B b w h1 h2 => sumn_any B b l w h1 (by omega) h2
      have kW0 := fun B b w h1 h2 => sumw_any B b ([] ++ L1) w h1 (by simp; omega) h2
      have kW1 := fun B b w h1 h2 => sumw_any B b l w h1 (by omega) h2
      have kA := fun w h1 (h2 : Tabs w) => sum256_any A n cap l w hlen hle h1 (by omega) h2.1
      have kB := fun w h1 (h2 : Tabs w) => sum512_any A n cap l w hlen hle h1 (by omega) h2.2
      have kC := fun w h1 (h2 : Tabs w) => sum256_any A i cap L1 w hL1 hicap h1 (by omega) h2.1
      have kD := fun w h1 (h2 : Tabs w) => sum512_any A i cap L1 w hL1 hicap h1 (by omega) h2.2
      rw [List.nil_append] at kN0 kW0 hcat
      rw [← hP32] at kN0 kC
      rw [← hP64] at kW0 kD
      rw [← hD32] at kN1 kA
      rw [← hD64] at kW1 kB
      clear hD32 hD64 hP32 hP64
      go_enter Tryd.func5, Tryd.ntmps5
      go_wp2_with (go_at_call 6; with_reducible refine hs.mono ?_; rintro e w0 ⟨rfl, hx0⟩)
      go_loopw [11] (fun t11 wr => ∃ r : Nat, r ≤ 2 ∧ t11 = .int .i64 r ∧ Ext w wr) (fun t11 _ => 2 - (intOf t11).toNat)
      case atStart => exact ⟨0, by decide, rfl, hx0⟩
      case round =>
        obtain ⟨r, hr2, rfl, hE⟩ := hrel
        rcases (by omega : r = 0 ∨ r = 1 ∨ r = 2) with rfl | rfl | rfl
        · go_wp2_with (first
                | (go_at_call 12; with_reducible refine (new_any false _).mono ?_; rintro e w1 ⟨rfl, hH1, hx1⟩)
                | (go_at_call 13; with_reducible refine (write_any wr.heap.size wr.heap.size false [] A i cap L1 w1 hH1 hL1 (r1 _ (Ext.trans hE hx1)) (by simp; omega) hx1.size).mono ?_; rintro e w2 ⟨rfl, hH2, hb2, -⟩; rw [List.nil_append] at hH2; have hx2 : Ext wr w2 := Below.trans hx1 hb2)
                | (go_at_call 14; with_reducible refine (kN0 wr.heap.size wr.heap.size w2 hH2 (hT.ext (Ext.trans hE hx2))).mono ?_; rintro e w3 ⟨m1, rfl, hm1, hx3⟩; have hx3' : Ext wr w3 := Ext.trans hx2 hx3; have hH3 := hH2.ext hx3; have hne1 := hH3.ne_row hm1 (by decide))
                | (go_at_call 13; with_reducible refine (write_any wr.heap.size wr.heap.size false L1 (cutA A i cap 1) (n - i) (cap - i) L2 w3 hH3 hL2 (r2 _ (Ext.trans hE hx3')) (by omega) hx3'.size).mono ?_; rintro e w4 ⟨rfl, hH4, hb4, ho4⟩; have hx4 : Ext wr w4 := Below.trans hx3' hb4; have hm2 := ho4.row hm1 hne1 (by decide); have hne2 := hH4.ne_row hm2 (by decide))
                | (go_at_call 13; with_reducible refine (write_any wr.heap.size wr.heap.size false (L1 ++ L2) (cutA A n cap 1) 0 (cap - n) L3 w4 hH4 hL3 (r3 _ (Ext.trans hE hx4)) (by rw [List.length_append]; omega) hx4.size).mono ?_; rintro e w5 ⟨rfl, hH5, hb5, ho5⟩; have hx5 : Ext wr w5 := Below.trans hx4 hb5; have hm3 := ho5.row hm2 hne2 (by decide); rw [hcat.out] at hH5)
                | (go_at_call 14; with_reducible refine (kN1 wr.heap.size wr.heap.size w5 hH5 (hT.ext (Ext.trans hE hx5))).mono ?_; rintro e w6 ⟨mx, rfl, hmx, hx6⟩; have hx6' : Ext wr w6 := Ext.trans hx5 hx6; have hm4 := hm3.ext hx6; have hH6 := hH5.ext hx6)
                | (go_at_call 14; with_reducible refine (kN1 wr.heap.size wr.heap.size w6 hH6 (hT.ext (Ext.trans hE hx6'))).mono ?_; rintro e w7 ⟨my, rfl, hmy, hx7⟩; have hx7' : Ext wr w7 := Ext.trans hx6' hx7; have hmx2 := hmx.ext hx7; have hm5 := hm4.ext hx7)
                | (go_at_call 7; with_reducible refine (kA w7 (hr.ext (Ext.trans hE hx7')) (hT.ext (Ext.trans hE hx7'))).mono ?_; rintro e w8 ⟨rfl, hx8⟩)
                | ((with_reducible refine store_fresh32 ?_ (.tmp 16) (.tmp 75) ?_ D32 lD32 ?_ ?_ ?_); rfl; rfl; rfl; rfl; intro w9 ho16 hx9; have hx9' : Ext wr w9 := Ext.trans hx7' (Ext.trans hx8 hx9))
                | (go_at_call 8; with_reducible refine (kB w9 (hr.ext (Ext.trans hE hx9')) (hT.ext (Ext.trans hE hx9'))).mono ?_; rintro e w10 ⟨rfl, hx10⟩)
                | ((with_reducible refine store_fresh64 ?_ (.tmp 17) (.tmp 77) ?_ D64 lD64 ?_ ?_ ?_); rfl; rfl; rfl; rfl; intro w11 ho17 hx11; have hx11' : Ext wr w11 := Ext.trans hx9' (Ext.trans hx10 hx11))
                | (go_at_call 7; with_reducible refine (kC w11 (r1 _ (Ext.trans hE hx11')) (hT.ext (Ext.trans hE hx11'))).mono ?_; rintro e w12 ⟨rfl, hx12⟩)
                | ((with_reducible refine store_fresh32 ?_ (.tmp 18) (.tmp 81) ?_ P32 lP32 ?_ ?_ ?_); rfl; rfl; rfl; rfl; intro w13 ho18 hx13; have hx13' : Ext wr w13 := Ext.trans hx11' (Ext.trans hx12 hx13))
                | (go_at_call 8; with_reducible refine (kD w13 (r1 _ (Ext.trans hE hx13')) (hT.ext (Ext.trans hE hx13'))).mono ?_; rintro e w14 ⟨rfl, hx14⟩)
                | ((with_reducible refine store_fresh64 ?_ (.tmp 19) (.tmp 85) ?_ P64 lP64 ?_ ?_ ?_); rfl; rfl; rfl; rfl; intro w15 ho19 hx15; have hx15' : Ext wr w15 := Ext.trans hx13' (Ext.trans hx14 hx15); have gx := rowrd32 ((((((hmx2.ext hx8).ext hx9).ext hx10).ext hx11).ext hx12).ext hx13 |>.ext hx14 |>.ext hx15); have gy := rowrd32 ((((((hmy.ext hx8).ext hx9).ext hx10).ext hx11).ext hx12).ext hx13 |>.ext hx14 |>.ext hx15); have gm := rowrd32 ((((((hm5.ext hx8).ext hx9).ext hx10).ext hx11).ext hx12).ext hx13 |>.ext hx14 |>.ext hx15); have g16 := rowrd32 ((((ho16.ext hx10).ext hx11).ext hx12).ext hx13 |>.ext hx14 |>.ext hx15); have g17 := rowrd64 (((ho17.ext hx12).ext hx13).ext hx14 |>.ext hx15); have g18 := rowrd32 ((ho18.ext hx14).ext hx15); have g19 := rowrd64 ho19)
                | (go_at_call 9; with_reducible refine (hsame32 D32 lD32 _ _ _ gx g16).mono ?_; rintro e w16 ⟨rfl, hx16⟩)
                | (go_at_call 9; with_reducible refine (hsame32 D32 lD32 _ _ _ (gy.ext hx16) (g16.ext hx16)).mono ?_; rintro e w17 ⟨rfl, hx17⟩)
                | (go_at_call 9; with_reducible refine (hsame32 P32 lP32 _ _ _ (gm.ext (Ext.trans hx16 hx17)) (g18.ext (Ext.trans hx16 hx17))).mono ?_; rintro e w18 ⟨rfl, hx18⟩))
          exact ⟨⟨1, by decide, rfl, Ext.trans hE (Ext.trans hx15' (Ext.trans hx16 (Ext.trans hx17 hx18)))⟩, by decide⟩
        · go_wp2_with (first
                | (go_at_call 12; with_reducible refine (new_any true _).mono ?_; rintro e w1 ⟨rfl, hH1, hx1⟩)
                | (go_at_call 13; with_reducible refine (write_any wr.heap.size wr.heap.size true [] A i cap L1 w1 hH1 hL1 (r1 _ (Ext.trans hE hx1)) (by simp; omega) hx1.size).mono ?_; rintro e w2 ⟨rfl, hH2, hb2, -⟩; rw [List.nil_append] at hH2; have hx2 : Ext wr w2 := Below.trans hx1 hb2)
                | (go_at_call 14; with_reducible refine (kW0 wr.heap.size wr.heap.size w2 hH2 (hT.ext (Ext.trans hE hx2))).mono ?_; rintro e w3 ⟨m1, rfl, hm1, hx3⟩; have hx3' : Ext wr w3 := Ext.trans hx2 hx3; have hH3 := hH2.ext hx3; have hne1 := hH3.ne_row hm1 (by decide))
                | (go_at_call 13; with_reducible refine (write_any wr.heap.size wr.heap.size true L1 (cutA A i cap 1) (n - i) (cap - i) L2 w3 hH3 hL2 (r2 _ (Ext.trans hE hx3')) (by omega) hx3'.size).mono ?_; rintro e w4 ⟨rfl, hH4, hb4, ho4⟩; have hx4 : Ext wr w4 := Below.trans hx3' hb4; have hm2 := ho4.row hm1 hne1 (by decide); have hne2 := hH4.ne_row hm2 (by decide))
                | (go_at_call 13; with_reducible refine (write_any wr.heap.size wr.heap.size true (L1 ++ L2) (cutA A n cap 1) 0 (cap - n) L3 w4 hH4 hL3 (r3 _ (Ext.trans hE hx4)) (by rw [List.length_append]; omega) hx4.size).mono ?_; rintro e w5 ⟨rfl, hH5, hb5, ho5⟩; have hx5 : Ext wr w5 := Below.trans hx4 hb5; have hm3 := ho5.row hm2 hne2 (by decide); rw [hcat.out] at hH5)
                | (go_at_call 14; with_reducible refine (kW1 wr.heap.size wr.heap.size w5 hH5 (hT.ext (Ext.trans hE hx5))).mono ?_; rintro e w6 ⟨mx, rfl, hmx, hx6⟩; have hx6' : Ext wr w6 := Ext.trans hx5 hx6; have hm4 := hm3.ext hx6; have hH6 := hH5.ext hx6)
                | (go_at_call 14; with_reducible refine (kW1 wr.heap.size wr.heap.size w6 hH6 (hT.ext (Ext.trans hE hx6'))).mono ?_; rintro e w7 ⟨my, rfl, hmy, hx7⟩; have hx7' : Ext wr w7 := Ext.trans hx6' hx7; have hmx2 := hmx.ext hx7; have hm5 := hm4.ext hx7)
                | (go_at_call 7; with_reducible refine (kA w7 (hr.ext (Ext.trans hE hx7')) (hT.ext (Ext.trans hE hx7'))).mono ?_; rintro e w8 ⟨rfl, hx8⟩)
                | ((with_reducible refine store_fresh32 ?_ (.tmp 16) (.tmp 75) ?_ D32 lD32 ?_ ?_ ?_); rfl; rfl; rfl; rfl; intro w9 ho16 hx9; have hx9' : Ext wr w9 := Ext.trans hx7' (Ext.trans hx8 hx9))
                | (go_at_call 8; with_reducible refine (kB w9 (hr.ext (Ext.trans hE hx9')) (hT.ext (Ext.trans hE hx9'))).mono ?_; rintro e w10 ⟨rfl, hx10⟩)
                | ((with_reducible refine store_fresh64 ?_ (.tmp 17) (.tmp 77) ?_ D64 lD64 ?_ ?_ ?_); rfl; rfl; rfl; rfl; intro w11 ho17 hx11; have hx11' : Ext wr w11 := Ext.trans hx9' (Ext.trans hx10 hx11))
                | (go_at_call 7; with_reducible refine (kC w11 (r1 _ (Ext.trans hE hx11')) (hT.ext (Ext.trans hE hx11'))).mono ?_; rintro e w12 ⟨rfl, hx12⟩)
                | ((with_reducible refine store_fresh32 ?_ (.tmp 18) (.tmp 81) ?_ P32 lP32 ?_ ?_ ?_); rfl; rfl; rfl; rfl; intro w13 ho18 hx13; have hx13' : Ext wr w13 := Ext.trans hx11' (Ext.trans hx12 hx13))
                | (go_at_call 8; with_reducible refine (kD w13 (r1 _ (Ext.trans hE hx13')) (hT.ext (Ext.trans hE hx13'))).mono ?_; rintro e w14 ⟨rfl, hx14⟩)
                | ((with_reducible refine store_fresh64 ?_ (.tmp 19) (.tmp 85) ?_ P64 lP64 ?_ ?_ ?_); rfl; rfl; rfl; rfl; intro w15 ho19 hx15; have hx15' : Ext wr w15 := Ext.trans hx13' (Ext.trans hx14 hx15); have gx := rowrd64 ((((((hmx2.ext hx8).ext hx9).ext hx10).ext hx11).ext hx12).ext hx13 |>.ext hx14 |>.ext hx15); have gy := rowrd64 ((((((hmy.ext hx8).ext hx9).ext hx10).ext hx11).ext hx12).ext hx13 |>.ext hx14 |>.ext hx15); have gm := rowrd64 ((((((hm5.ext hx8).ext hx9).ext hx10).ext hx11).ext hx12).ext hx13 |>.ext hx14 |>.ext hx15); have g16 := rowrd32 ((((ho16.ext hx10).ext hx11).ext hx12).ext hx13 |>.ext hx14 |>.ext hx15); have g17 := rowrd64 (((ho17.ext hx12).ext hx13).ext hx14 |>.ext hx15); have g18 := rowrd32 ((ho18.ext hx14).ext hx15); have g19 := rowrd64 ho19)
                | (go_at_call 9; with_reducible refine (hsame64 D64 lD64 _ _ _ gx g17).mono ?_; rintro e w16 ⟨rfl, hx16⟩)
                | (go_at_call 9; with_reducible refine (hsame64 D64 lD64 _ _ _ (gy.ext hx16) (g17.ext hx16)).mono ?_; rintro e w17 ⟨rfl, hx17⟩)
                | (go_at_call 9; with_reducible refine (hsame64 P64 lP64 _ _ _ (gm.ext (Ext.trans hx16 hx17)) (g19.ext (Ext.trans hx16 hx17))).mono ?_; rintro e w18 ⟨rfl, hx18⟩))
          exact ⟨⟨2, by decide, rfl, Ext.trans hE (Ext.trans hx15' (Ext.trans hx16 (Ext.trans hx17 hx18)))⟩, by decide⟩
        · go_wp2
          go_ret
          exact ⟨rfl, hE⟩
    · obtain ⟨L1, hL1e⟩ : ∃ L, L = l.take i := ⟨_, rfl⟩
      obtain ⟨L2, hL2e⟩ : ∃ L, L = (l.drop i).take (n - i) := ⟨_, rfl⟩
      obtain ⟨L3, hL3e⟩ : ∃ L, L = l.drop n := ⟨_, rfl⟩
      have hcat : Hid ([] ++ L1 ++ L2 ++ L3 = l) := Lib.hid (by
        rw [hL1e, hL2e, hL3e]
        have e1 : l.drop n = (l.drop i).drop (n - i) := by rw [List.drop_drop]; congr 1; omega
        rw [e1, List.nil_append, List.append_assoc, List.take_append_drop, List.take_append_drop])
      have hL1 : L1.length = i := by rw [hL1e, List.length_take]; omega
      have hL2 : L2.length = n - i := by rw [hL2e, List.length_take, List.length_drop]; omega
      have hL3 : L3.length = 0 := by rw [hL3e, List.length_drop]; omega
      have r1 : ∀ w', Ext w w' → Rd w' A (L1.map bv) := fun w' hx => by rw [hL1e, List.map_take]; exact (hr.ext hx).take i
      have r2 : ∀ w', Ext w w' → Rd w' (cutA A i cap 1) (L2.map bv) := fun w' hx => by
        rw [hL2e, List.map_take, List.map_drop]
        exact (Rd.cutA_ (hr.ext hx) (by rw [List.length_map]; omega)).take _
      have r3 : ∀ w', Ext w w' → Rd w' (cutA A n cap 1) (L3.map bv) := fun w' hx => by
        rw [hL3e, List.map_drop]
        exact Rd.cutA_ (hr.ext hx) (by rw [List.length_map]; omega)
      have hicap : i ≤ cap := by omega
      have hkcap : n ≤ cap := by omega
      have f1 : (i : Int) ≤ (cap : Int) := by omega
      have f2 : (n : Int) ≤ (cap : Int) := by omega
      have f3 : (i : Int) ≤ (n : Int) := by omega
      have f4 : (n : Int) ≤ (n : Int) := by omega
      have n1 : ¬ n < i := by omega
      have n2 : ¬ n < n := by omega
      have n3 : ¬ n < i := by omega
      clear hL1e hL2e hL3e
      obtain ⟨D32, hD32⟩ : ∃ D, D = hash32 l := ⟨_, rfl⟩
      obtain ⟨D64, hD64⟩ : ∃ D, D = hash64 l := ⟨_, rfl⟩
      obtain ⟨P32, hP32⟩ : ∃ D, D = hash32 L1 := ⟨_, rfl⟩
      obtain ⟨P64, hP64⟩ : ∃ D, D = hash64 L1 := ⟨_, rfl⟩
      have lD32 : D32.length = 32 := by rw [hD32]; exact outAt_len32 l
      have lD64 : D64.length = 64 := by rw [hD64]; exact outAt_len64 l
      have lP32 : P32.length = 32 := by rw [hP32]; exact outAt_len32 L1
      have lP64 : P64.length = 64 := by rw [hP64]; exact outAt_len64 L1
      have kN0 := fun B b w h1 h2 => sumn_any B b ([] ++ L1) w h1 (by simp; omega) h2
      have kN1 := fun B b w h1 h2 => sumn_any B b l w h1 (by omega) h2
      have kW0 := fun B b w h1 h2 => sumw_any B b ([] ++ L1) w h1 (by simp; omega) h2
      have kW1 := fun B b w h1 h2 => sumw_any B b l w h1 (by omega) h2
      have kA := fun w h1 (h2 : Tabs w) => sum256_any A n cap l w hlen hle h1 (by omega) h2.1
      have kB := fun w h1 (h2 : Tabs w) => sum512_any A n cap l w hlen hle h1 (by omega) h2.2
      have kC := fun w h1 (h2 : Tabs w) => sum256_any A i cap L1 w hL1 hicap h1 (by omega) h2.1
      have kD := fun w h1 (h2 : Tabs w) => sum512_any A i cap L1 w hL1 hicap h1 (by omega) h2.2
      rw [List.nil_append] at kN0 kW0 hcat
      rw [← hP32] at kN0 kC
      rw [← hP64] at kW0 kD
      rw [← hD32] at kN1 kA
      rw [← hD64] at kW1 kB
      clear hD32 hD64 hP32 hP64
      go_enter Tryd.func5, Tryd.ntmps5
      go_wp2_with (go_at_call 6; with_reducible refine hs.mono ?_; rintro e w0 ⟨rfl, hx0⟩)
      go_loopw [11] (fun t11 wr => ∃ r : Nat, r ≤ 2 ∧ t11 = .int .i64 r ∧ Ext w wr) (fun t11 _ => 2 - (intOf t11).toNat)
      case atStart => exact ⟨0, by decide, rfl, hx0⟩
      case round =>
        obtain ⟨r, hr2, rfl, hE⟩ := hrel
        rcases (by omega : r = 0 ∨ r = 1 ∨ r = 2) with rfl | rfl | rfl
        · go_wp2_with (first
                | (go_at_call 12; with_reducible refine (new_any false _).mono ?_; rintro e w1 ⟨rfl, hH1, hx1⟩)
                | (go_at_call 13; with_reducible refine (write_any wr.heap.size wr.heap.size false [] A i cap L1 w1 hH1 hL1 (r1 _ (Ext.trans hE hx1)) (by simp; omega) hx1.size).mono ?_; rintro e w2 ⟨rfl, hH2, hb2, -⟩; rw [List.nil_append] at hH2; have hx2 : Ext wr w2 := Below.trans hx1 hb2)
                | (go_at_call 14; with_reducible refine (kN0 wr.heap.size wr.heap.size w2 hH2 (hT.ext (Ext.trans hE hx2))).mono ?_; rintro e w3 ⟨m1, rfl, hm1, hx3⟩; have hx3' : Ext wr w3 := Ext.trans hx2 hx3; have hH3 := hH2.ext hx3; have hne1 := hH3.ne_row hm1 (by decide))
                | (go_at_call 13; with_reducible refine (write_any wr.heap.size wr.heap.size false L1 (cutA A i cap 1) (n - i) (cap - i) L2 w3 hH3 hL2 (r2 _ (Ext.trans hE hx3')) (by omega) hx3'.size).mono ?_; rintro e w4 ⟨rfl, hH4, hb4, ho4⟩; have hx4 : Ext wr w4 := Below.trans hx3' hb4; have hm2 := ho4.row hm1 hne1 (by decide); have hne2 := hH4.ne_row hm2 (by decide))
                | (go_at_call 13; with_reducible refine (write_any wr.heap.size wr.heap.size false (L1 ++ L2) (cutA A n cap 1) 0 (cap - n) L3 w4 hH4 hL3 (r3 _ (Ext.trans hE hx4)) (by rw [List.length_append]; omega) hx4.size).mono ?_; rintro e w5 ⟨rfl, hH5, hb5, ho5⟩; have hx5 : Ext wr w5 := Below.trans hx4 hb5; have hm3 := ho5.row hm2 hne2 (by decide); rw [hcat.out] at hH5)
                | (go_at_call 14; with_reducible refine (kN1 wr.heap.size wr.heap.size w5 hH5 (hT.ext (Ext.trans hE hx5))).mono ?_; rintro e w6 ⟨mx, rfl, hmx, hx6⟩; have hx6' : Ext wr w6 := Ext.trans hx5 hx6; have hm4 := hm3.ext hx6; have hH6 := hH5.ext hx6)
                | (go_at_call 14; with_reducible refine (kN1 wr.heap.size wr.heap.size w6 hH6 (hT.ext (Ext.trans hE hx6'))).mono ?_; rintro e w7 ⟨my, rfl, hmy, hx7⟩; have hx7' : Ext wr w7 := Ext.trans hx6' hx7; have hmx2 := hmx.ext hx7; have hm5 := hm4.ext hx7)
                | (go_at_call 7; with_reducible refine (kA w7 (hr.ext (Ext.trans hE hx7')) (hT.ext (Ext.trans hE hx7'))).mono ?_; rintro e w8 ⟨rfl, hx8⟩)
                | ((with_reducible refine store_fresh32 ?_ (.tmp 16) (.tmp 75) ?_ D32 lD32 ?_ ?_ ?_); rfl; rfl; rfl; rfl; intro w9 ho16 hx9; have hx9' : Ext wr w9 := Ext.trans hx7' (Ext.trans hx8 hx9))
                | (go_at_call 8; with_reducible refine (kB w9 (hr.ext (Ext.trans hE hx9')) (hT.ext (Ext.trans hE hx9'))).mono ?_; rintro e w10 ⟨rfl, hx10⟩)
                | ((with_reducible refine store_fresh64 ?_ (.tmp 17) (.tmp 77) ?_ D64 lD64 ?_ ?_ ?_); rfl; rfl; rfl; rfl; intro w11 ho17 hx11; have hx11' : Ext wr w11 := Ext.trans hx9' (Ext.trans hx10 hx11))
                | (go_at_call 7; with_reducible refine (kC w11 (r1 _ (Ext.trans hE hx11')) (hT.ext (Ext.trans hE hx11'))).mono ?_; rintro e w12 ⟨rfl, hx12⟩)
                | ((with_reducible refine store_fresh32 ?_ (.tmp 18) (.tmp 81) ?_ P32 lP32 ?_ ?_ ?_); rfl; rfl; rfl; rfl; intro w13 ho18 hx13; have hx13' : Ext wr w13 := Ext.trans hx11' (Ext.trans hx12 hx13))
                | (go_at_call 8; with_reducible refine (kD w13 (r1 _ (Ext.trans hE hx13')) (hT.ext (Ext.trans hE hx13'))).mono ?_; rintro e w14 ⟨rfl, hx14⟩)
                | ((with_reducible refine store_fresh64 ?_ (.tmp 19) (.tmp 85) ?_ P64 lP64 ?_ ?_ ?_); rfl; rfl; rfl; rfl; intro w15 ho19 hx15; have hx15' : Ext wr w15 := Ext.trans hx13' (Ext.trans hx14 hx15); have gx := rowrd32 ((((((hmx2.ext hx8).ext hx9).ext hx10).ext hx11).ext hx12).ext hx13 |>.ext hx14 |>.ext hx15); have gy := rowrd32 ((((((hmy.ext hx8).ext hx9).ext hx10).ext hx11).ext hx12).ext hx13 |>.ext hx14 |>.ext hx15); have gm := rowrd32 ((((((hm5.ext hx8).ext hx9).ext hx10).ext hx11).ext hx12).ext hx13 |>.ext hx14 |>.ext hx15); have g16 := rowrd32 ((((ho16.ext hx10).ext hx11).ext hx12).ext hx13 |>.ext hx14 |>.ext hx15); have g17 := rowrd64 (((ho17.ext hx12).ext hx13).ext hx14 |>.ext hx15); have g18 := rowrd32 ((ho18.ext hx14).ext hx15); have g19 := rowrd64 ho19)
                | (go_at_call 9; with_reducible refine (hsame32 D32 lD32 _ _ _ gx g16).mono ?_; rintro e w16 ⟨rfl, hx16⟩)
                | (go_at_call 9; with_reducible refine (hsame32 D32 lD32 _ _ _ (gy.ext hx16) (g16.ext hx16)).mono ?_; rintro e w17 ⟨rfl, hx17⟩)
                | (go_at_call 9; with_reducible refine (hsame32 P32 lP32 _ _ _ (gm.ext (Ext.trans hx16 hx17)) (g18.ext (Ext.trans hx16 hx17))).mono ?_; rintro e w18 ⟨rfl, hx18⟩))
          exact ⟨⟨1, by decide, rfl, Ext.trans hE (Ext.trans hx15' (Ext.trans hx16 (Ext.trans hx17 hx18)))⟩, by decide⟩
        · go_wp2_with (first
                | (go_at_call 12; with_reducible refine (new_any true _).mono ?_; rintro e w1 ⟨rfl, hH1, hx1⟩)
                | (go_at_call 13; with_reducible refine (write_any wr.heap.size wr.heap.size true [] A i cap L1 w1 hH1 hL1 (r1 _ (Ext.trans hE hx1)) (by simp; omega) hx1.size).mono ?_; rintro e w2 ⟨rfl, hH2, hb2, -⟩; rw [List.nil_append] at hH2; have hx2 : Ext wr w2 := Below.trans hx1 hb2)
                | (go_at_call 14; with_reducible refine (kW0 wr.heap.size wr.heap.size w2 hH2 (hT.ext (Ext.trans hE hx2))).mono ?_; rintro e w3 ⟨m1, rfl, hm1, hx3⟩; have hx3' : Ext wr w3 := Ext.trans hx2 hx3; have hH3 := hH2.ext hx3; have hne1 := hH3.ne_row hm1 (by decide))
                | (go_at_call 13; with_reducible refine (write_any wr.heap.size wr.heap.size true L1 (cutA A i cap 1) (n - i) (cap - i) L2 w3 hH3 hL2 (r2 _ (Ext.trans hE hx3')) (by omega) hx3'.size).mono ?_; rintro e w4 ⟨rfl, hH4, hb4, ho4⟩; have hx4 : Ext wr w4 := Below.trans hx3' hb4; have hm2 := ho4.row hm1 hne1 (by decide); have hne2 := hH4.ne_row hm2 (by decide))
                | (go_at_call 13; with_reducible refine (write_any wr.heap.size wr.heap.size true (L1 ++ L2) (cutA A n cap 1) 0 (cap - n) L3 w4 hH4 hL3 (r3 _ (Ext.trans hE hx4)) (by rw [List.length_append]; omega) hx4.size).mono ?_; rintro e w5 ⟨rfl, hH5, hb5, ho5⟩; have hx5 : Ext wr w5 := Below.trans hx4 hb5; have hm3 := ho5.row hm2 hne2 (by decide); rw [hcat.out] at hH5)
                | (go_at_call 14; with_reducible refine (kW1 wr.heap.size wr.heap.size w5 hH5 (hT.ext (Ext.trans hE hx5))).mono ?_; rintro e w6 ⟨mx, rfl, hmx, hx6⟩; have hx6' : Ext wr w6 := Ext.trans hx5 hx6; have hm4 := hm3.ext hx6; have hH6 := hH5.ext hx6)
                | (go_at_call 14; with_reducible refine (kW1 wr.heap.size wr.heap.size w6 hH6 (hT.ext (Ext.trans hE hx6'))).mono ?_; rintro e w7 ⟨my, rfl, hmy, hx7⟩; have hx7' : Ext wr w7 := Ext.trans hx6' hx7; have hmx2 := hmx.ext hx7; have hm5 := hm4.ext hx7)
                | (go_at_call 7; with_reducible refine (kA w7 (hr.ext (Ext.trans hE hx7')) (hT.ext (Ext.trans hE hx7'))).mono ?_; rintro e w8 ⟨rfl, hx8⟩)
                | ((with_reducible refine store_fresh32 ?_ (.tmp 16) (.tmp 75) ?_ D32 lD32 ?_ ?_ ?_); rfl; rfl; rfl; rfl; intro w9 ho16 hx9; have hx9' : Ext wr w9 := Ext.trans hx7' (Ext.trans hx8 hx9))
                | (go_at_call 8; with_reducible refine (kB w9 (hr.ext (Ext.trans hE hx9')) (hT.ext (Ext.trans hE hx9'))).mono ?_; rintro e w10 ⟨rfl, hx10⟩)
                | ((with_reducible refine store_fresh64 ?_ (.tmp 17) (.tmp 77) ?_ D64 lD64 ?_ ?_ ?_); rfl; rfl; rfl; rfl; intro w11 ho17 hx11; have hx11' : Ext wr w11 := Ext.trans hx9' (Ext.trans hx10 hx11))
                | (go_at_call 7; with_reducible refine (kC w11 (r1 _ (Ext.trans hE hx11')) (hT.ext (Ext.trans hE hx11'))).mono ?_; rintro e w12 ⟨rfl, hx12⟩)
                | ((with_reducible refine store_fresh32 ?_ (.tmp 18) (.tmp 81) ?_ P32 lP32 ?_ ?_ ?_); rfl; rfl; rfl; rfl; intro w13 ho18 hx13; have hx13' : Ext wr w13 := Ext.trans hx11' (Ext.trans hx12 hx13))
                | (go_at_call 8; with_reducible refine (kD w13 (r1 _ (Ext.trans hE hx13')) (hT.ext (Ext.trans hE hx13'))).mono ?_; rintro e w14 ⟨rfl, hx14⟩)
                | ((with_reducible refine store_fresh64 ?_ (.tmp 19) (.tmp 85) ?_ P64 lP64 ?_ ?_ ?_); rfl; rfl; rfl; rfl; intro w15 ho19 hx15; have hx15' : Ext wr w15 := Ext.trans hx13' (Ext.trans hx14 hx15); have gx := rowrd64 ((((((hmx2.ext hx8).ext hx9).ext hx10).ext hx11).ext hx12).ext hx13 |>.ext hx14 |>.ext hx15); have gy := rowrd64 ((((((hmy.ext hx8).ext hx9).ext hx10).ext hx11).ext hx12).ext hx13 |>.ext hx14 |>.ext hx15); have gm := rowrd64 ((((((hm5.ext hx8).ext hx9).ext hx10).ext hx11).ext hx12).ext hx13 |>.ext hx14 |>.ext hx15); have g16 := rowrd32 ((((ho16.ext hx10).ext hx11).ext hx12).ext hx13 |>.ext hx14 |>.ext hx15); have g17 := rowrd64 (((ho17.ext hx12).ext hx13).ext hx14 |>.ext hx15); have g18 := rowrd32 ((ho18.ext hx14).ext hx15); have g19 := rowrd64 ho19)
                | (go_at_call 9; with_reducible refine (hsame64 D64 lD64 _ _ _ gx g17).mono ?_; rintro e w16 ⟨rfl, hx16⟩)
                | (go_at_call 9; with_reducible refine (hsame64 D64 lD64 _ _ _ (gy.ext hx16) (g17.ext hx16)).mono ?_; rintro e w17 ⟨rfl, hx17⟩)
                | (go_at_call 9; with_reducible refine (hsame64 P64 lP64 _ _ _ (gm.ext (Ext.trans hx16 hx17)) (g19.ext (Ext.trans hx16 hx17))).mono ?_; rintro e w18 ⟨rfl, hx18⟩))
          exact ⟨⟨2, by decide, rfl, Ext.trans hE (Ext.trans hx15' (Ext.trans hx16 (Ext.trans hx17 hx18)))⟩, by decide⟩
        · go_wp2
          go_ret
          exact ⟨rfl, hE⟩
    · obtain ⟨k, rfl⟩ : ∃ k : Nat, x2 = (k : Int) := ⟨x2.toNat, by omega⟩
      obtain ⟨L1, hL1e⟩ : ∃ L, L = l.take i := ⟨_, rfl⟩
      obtain ⟨L2, hL2e⟩ : ∃ L, L = (l.drop i).take (k - i) := ⟨_, rfl⟩
      obtain ⟨L3, hL3e⟩ : ∃ L, L = l.drop k := ⟨_, rfl⟩
      have hcat : Hid ([] ++ L1 ++ L2 ++ L3 = l) := Lib.hid (by
        rw [hL1e, hL2e, hL3e]
        have e1 : l.drop k = (l.drop i).drop (k - i) := by rw [List.drop_drop]; congr 1; omega
        rw [e1, List.nil_append, List.append_assoc, List.take_append_drop, List.take_append_drop])
      have hL1 : L1.length = i := by rw [hL1e, List.length_take]; omega
      have hL2 : L2.length = k - i := by rw [hL2e, List.length_take, List.length_drop]; omega
      have hL3 : L3.length = n - k := by rw [hL3e, List.length_drop]; omega
      have r1 : ∀ w', Ext w w' → Rd w' A (L1.map bv) := fun w' hx => by rw [hL1e, List.map_take]; exact (hr.ext hx).take i
      have r2 : ∀ w', Ext w w' → Rd w' (cutA A i cap 1) (L2.map bv) := fun w' hx => by
        rw [hL2e, List.map_take, List.map_drop]
        exact (Rd.cutA_ (hr.ext hx) (by rw [List.length_map]; omega)).take _
      have r3 : ∀ w', Ext w w' → Rd w' (cutA A k cap 1) (L3.map bv) := fun w' hx => by
        rw [hL3e, List.map_drop]
        exact Rd.cutA_ (hr.ext hx) (by rw [List.length_map]; omega)
      have hicap : i ≤ cap := by omega
      have hkcap : k ≤ cap := by omega
      have f1 : (i : Int) ≤ (cap : Int) := by omega
      have f2 : (k : Int) ≤ (cap : Int) := by omega
      have f3 : (i : Int) ≤ (k : Int) := by omega
      have f4 : (k : Int) ≤ (n : Int) := by omega
      have n1 : ¬ k < i := by omega
      have n2 : ¬ n < k := by omega
      have n3 : ¬ n < i := by omega
      clear hL1e hL2e hL3e
      obtain ⟨D32, hD32⟩ : ∃ D, D = hash32 l := ⟨_, rfl⟩
      obtain ⟨D64, hD64⟩ : ∃ D, D = hash64 l := ⟨_, rfl⟩
      obtain ⟨P32, hP32⟩ : ∃ D, D = hash32 L1 := ⟨_, rfl⟩
      obtain ⟨P64, hP64⟩ : ∃ D, D = hash64 L1 := ⟨_, rfl⟩
      have lD32 : D32.length = 32 := by rw [hD32]; exact outAt_len32 l
      have lD64 : D64.length = 64 := by rw [hD64]; exact outAt_len64 l
      have lP32 : P32.length = 32 := by rw [hP32]; exact outAt_len32 L1
      have lP64 : P64.length = 64 := by rw [hP64]; exact outAt_len64 L1
      have kN0 := fun B b w h1 h2 => sumn_any B b ([] ++ L1) w h1 (by simp; omega) h2
      have kN1 := fun B b w h1 h2 => sumn_any B b l w h1 (by omega) h2
      have kW0 := fun B b w h1 h2 => sumw_any B b ([] ++ L1) w h1 (by simp; omega) h2
      have kW1 := fun B b w h1 h2 => sumw_any B b l w h1 (by omega) h2
      have kA := fun w h1 (h2 : Tabs w) => sum256_any A n cap l w hlen hle h1 (by omega) h2.1
      have kB := fun w h1 (h2 : Tabs w) => sum512_any A n cap l w hlen hle h1 (by omega) h2.2
      have kC := fun w h1 (h2 : Tabs w) => sum256_any A i cap L1 w hL1 hicap h1 (by omega) h2.1
      have kD := fun w h1 (h2 : Tabs w) => sum512_any A i cap L1 w hL1 hicap h1 (by omega) h2.2
      rw [List.nil_append] at kN0 kW0 hcat
      rw [← hP32] at kN0 kC
      rw [← hP64] at kW0 kD
      rw [← hD32] at kN1 kA
      rw [← hD64] at kW1 kB
      clear hD32 hD64 hP32 hP64
      go_enter Tryd.func5, Tryd.ntmps5
      go_wp2_with (go_at_call 6; with_reducible refine hs.mono ?_; rintro e w0 ⟨rfl, hx0⟩)
      go_loopw [11] (fun t11 wr => ∃ r : Nat, r ≤ 2 ∧ t11 = .int .i64 r ∧ Ext w wr) (fun t11 _ => 2 - (intOf t11).toNat)
      case atStart => exact ⟨0, by decide, rfl, hx0⟩
      case round =>
        obtain ⟨r, hr2, rfl, hE⟩ := hrel
        rcases (by omega : r = 0 ∨ r = 1 ∨ r = 2) with rfl | rfl | rfl
        · go_wp2_with (first
                | (go_at_call 12; with_reducible refine (new_any false _).mono ?_; rintro e w1 ⟨rfl, hH1, hx1⟩)
                | (go_at_call 13; with_reducible refine (write_any wr.heap.size wr.heap.size false [] A i cap L1 w1 hH1 hL1 (r1 _ (Ext.trans hE hx1)) (by simp; omega) hx1.size).mono ?_; rintro e w2 ⟨rfl, hH2, hb2, -⟩; rw [List.nil_append] at hH2; have hx2 : Ext wr w2 := Below.trans hx1 hb2)
                | (go_at_call 14; with_reducible refine (kN0 wr.heap.size wr.heap.size w2 hH2 (hT.ext (Ext.trans hE hx2))).mono ?_; rintro e w3 ⟨m1, rfl, hm1, hx3⟩; have hx3' : Ext wr w3 := Ext.trans hx2 hx3; have hH3 := hH2.ext hx3; have hne1 := hH3.ne_row hm1 (by decide))
                | (go_at_call 13; with_reducible refine (write_any wr.heap.size wr.heap.size false L1 (cutA A i cap 1) (k - i) (cap - i) L2 w3 hH3 hL2 (r2 _ (Ext.trans hE hx3')) (by omega) hx3'.size).mono ?_; rintro e w4 ⟨rfl, hH4, hb4, ho4⟩; have hx4 : Ext wr w4 := Below.trans hx3' hb4; have hm2 := ho4.row hm1 hne1 (by decide); have hne2 := hH4.ne_row hm2 (by decide))
                | (go_at_call 13; with_reducible refine (write_any wr.heap.size wr.heap.size false (L1 ++ L2) (cutA A k cap 1) (n - k) (cap - k) L3 w4 hH4 hL3 (r3 _ (Ext.trans hE hx4)) (by rw [List.length_append]; omega) hx4.size).mono ?_; rintro e w5 ⟨rfl, hH5, hb5, ho5⟩; have hx5 : Ext wr w5 := Below.trans hx4 hb5; have hm3 := ho5.row hm2 hne2 (by decide); rw [hcat.out] at hH5)
                | (go_at_call 14; with_reducible refine (kN1 wr.heap.size wr.heap.size w5 hH5 (hT.ext (Ext.trans hE hx5))).mono ?_; rintro e w6 ⟨mx, rfl, hmx, hx6⟩; have hx6' : Ext wr w6 := Ext.trans hx5 hx6; have hm4 := hm3.ext hx6; have hH6 := hH5.ext hx6)
                | (go_at_call 14; with_reducible refine (kN1 wr.heap.size wr.heap.size w6 hH6 (hT.ext (Ext.trans hE hx6'))).mono ?_; rintro e w7 ⟨my, rfl, hmy, hx7⟩; have hx7' : Ext wr w7 := Ext.trans hx6' hx7; have hmx2 := hmx.ext hx7; have hm5 := hm4.ext hx7)
                | (go_at_call 7; with_reducible refine (kA w7 (hr.ext (Ext.trans hE hx7')) (hT.ext (Ext.trans hE hx7'))).mono ?_; rintro e w8 ⟨rfl, hx8⟩)
                | ((with_reducible refine store_fresh32 ?_ (.tmp 16) (.tmp 75) ?_ D32 lD32 ?_ ?_ ?_); rfl; rfl; rfl; rfl; intro w9 ho16 hx9; have hx9' : Ext wr w9 := Ext.trans hx7' (Ext.trans hx8 hx9))
                | (go_at_call 8; with_reducible refine (kB w9 (hr.ext (Ext.trans hE hx9')) (hT.ext (Ext.trans hE hx9'))).mono ?_; rintro e w10 ⟨rfl, hx10⟩)
                | ((with_reducible refine store_fresh64 ?_ (.tmp 17) (.tmp 77) ?_ D64 lD64 ?_ ?_ ?_); rfl; rfl; rfl; rfl; intro w11 ho17 hx11; have hx11' : Ext wr w11 := Ext.trans hx9' (Ext.trans hx10 hx11))
                | (go_at_call 7; with_reducible refine (kC w11 (r1 _ (Ext.trans hE hx11')) (hT.ext (Ext.trans hE hx11'))).mono ?_; rintro e w12 ⟨rfl, hx12⟩)
                | ((with_reducible refine store_fresh32 ?_ (.tmp 18) (.tmp 81) ?_ P32 lP32 ?_ ?_ ?_); rfl; rfl; rfl; rfl; intro w13 ho18 hx13; have hx13' : Ext wr w13 := Ext.trans hx11' (Ext.trans hx12 hx13))
                | (go_at_call 8; with_reducible refine (kD w13 (r1 _ (Ext.trans hE hx13')) (hT.ext (Ext.trans hE hx13'))).mono ?_; rintro e w14 ⟨rfl, hx14⟩)
                | ((with_reducible refine store_fresh64 ?_ (.tmp 19) (.tmp 85) ?_ P64 lP64 ?_ ?_ ?_); rfl; rfl; rfl; rfl; intro w15 ho19 hx15; have hx15' : Ext wr w15 := Ext.trans hx13' (Ext.trans hx14 hx15); have gx := rowrd32 ((((((hmx2.ext hx8).ext hx9).ext hx10).ext hx11).ext hx12).ext hx13 |>.ext hx14 |>.ext hx15); have gy := rowrd32 ((((((hmy.ext hx8).ext hx9).ext hx10).ext hx11).ext hx12).ext hx13 |>.ext hx14 |>.ext hx15); have gm := rowrd32 ((((((hm5.ext hx8).ext hx9).ext hx10).ext hx11).ext hx12).ext hx13 |>.ext hx14 |>.ext hx15); have g16 := rowrd32 ((((ho16.ext hx10).ext hx11).ext hx12).ext hx13 |>.ext hx14 |>.ext hx15); have g17 := rowrd64 (((ho17.ext hx12).ext hx13).ext hx14 |>.ext hx15); have g18 := rowrd32 ((ho18.ext hx14).ext hx15); have g19 := rowrd64 ho19)
                | (go_at_call 9; with_reducible refine (hsame32 D32 lD32 _ _ _ gx g16).mono ?_; rintro e w16 ⟨rfl, hx16⟩)
                | (go_at_call 9; with_reducible refine (hsame32 D32 lD32 _ _ _ (gy.ext hx16) (g16.ext hx16)).mono ?_; rintro e w17 ⟨rfl, hx17⟩)
                | (go_at_call 9; with_reducible refine (hsame32 P32 lP32 _ _ _ (gm.ext (Ext.trans hx16 hx17)) (g18.ext (Ext.trans hx16 hx17))).mono ?_; rintro e w18 ⟨rfl, hx18⟩))
          exact ⟨⟨1, by decide, rfl, Ext.trans hE (Ext.trans hx15' (Ext.trans hx16 (Ext.trans hx17 hx18)))⟩, by decide⟩
        · go_wp2_with (first
                | (go_at_call 12; with_reducible refine (new_any true _).mono ?_; rintro e w1 ⟨rfl, hH1, hx1⟩)
                | (go_at_call 13; with_reducible refine (write_any wr.heap.size wr.heap.size true [] A i cap L1 w1 hH1 hL1 (r1 _ (Ext.trans hE hx1)) (by simp; omega) hx1.size).mono ?_; rintro e w2 ⟨rfl, hH2, hb2, -⟩; rw [List.nil_append] at hH2; have hx2 : Ext wr w2 := Below.trans hx1 hb2)
                | (go_at_call 14; with_reducible refine (kW0 wr.heap.size wr.heap.size w2 hH2 (hT.ext (Ext.trans hE hx2))).mono ?_; rintro e w3 ⟨m1, rfl, hm1, hx3⟩; have hx3' : Ext wr w3 := Ext.trans hx2 hx3; have hH3 := hH2.ext hx3; have hne1 := hH3.ne_row hm1 (by decide))
                | (go_at_call 13; with_reducible refine (write_any wr.heap.size wr.heap.size true L1 (cutA A i cap 1) (k - i) (cap - i) L2 w3 hH3 hL2 (r2 _ (Ext.trans hE hx3')) (by omega) hx3'.size).mono ?_; rintro e w4 ⟨rfl, hH4, hb4, ho4⟩; have hx4 : Ext wr w4 := Below.trans hx3' hb4; have hm2 := ho4.row hm1 hne1 (by decide); have hne2 := hH4.ne_row hm2 (by decide))
                | (go_at_call 13; with_reducible refine (write_any wr.heap.size wr.heap.size true (L1 ++ L2) (cutA A k cap 1) (n - k) (cap - k) L3 w4 hH4 hL3 (r3 _ (Ext.trans hE hx4)) (by rw [List.length_append]; omega) hx4.size).mono ?_; rintro e w5 ⟨rfl, hH5, hb5, ho5⟩; have hx5 : Ext wr w5 := Below.trans hx4 hb5; have hm3 := ho5.row hm2 hne2 (by decide); rw [hcat.out] at hH5)
                | (go_at_call 14; with_reducible refine (kW1 wr.heap.size wr.heap.size w5 hH5 (hT.ext (Ext.trans hE hx5))).mono ?_; rintro e w6 ⟨mx, rfl, hmx, hx6⟩; have hx6' : Ext wr w6 := Ext.trans hx5 hx6; have hm4 := hm3.ext hx6; have hH6 := hH5.ext hx6)
                | (go_at_call 14; with_reducible refine (kW1 wr.heap.size wr.heap.size w6 hH6 (hT.ext (Ext.trans hE hx6'))).mono ?_; rintro e w7 ⟨my, rfl, hmy, hx7⟩; have hx7' : Ext wr w7 := Ext.trans hx6' hx7; have hmx2 := hmx.ext hx7; have hm5 := hm4.ext hx7)
                | (go_at_call 7; with_reducible refine (kA w7 (hr.ext (Ext.trans hE hx7')) (hT.ext (Ext.trans hE hx7'))).mono ?_; rintro e w8 ⟨rfl, hx8⟩)
                | ((with_reducible refine store_fresh32 ?_ (.tmp 16) (.tmp 75) ?_ D32 lD32 ?_ ?_ ?_); rfl; rfl; rfl; rfl; intro w9 ho16 hx9; have hx9' : Ext wr w9 := Ext.trans hx7' (Ext.trans hx8 hx9))
                | (go_at_call 8; with_reducible refine (kB w9 (hr.ext (Ext.trans hE hx9')) (hT.ext (Ext.trans hE hx9'))).mono ?_; rintro e w10 ⟨rfl, hx10⟩)
                | ((with_reducible refine store_fresh64 ?_ (.tmp 17) (.tmp 77) ?_ D64 lD64 ?_ ?_ ?_); rfl; rfl; rfl; rfl; intro w11 ho17 hx11; have hx11' : Ext wr w11 := Ext.trans hx9' (Ext.trans hx10 hx11))
                | (go_at_call 7; with_reducible refine (kC w11 (r1 _ (Ext.trans hE hx11')) (hT.ext (Ext.trans hE hx11'))).mono ?_; rintro e w12 ⟨rfl, hx12⟩)
                | ((with_reducible refine store_fresh32 ?_ (.tmp 18) (.tmp 81) ?_ P32 lP32 ?_ ?_ ?_); rfl; rfl; rfl; rfl; intro w13 ho18 hx13; have hx13' : Ext wr w13 := Ext.trans hx11' (Ext.trans hx12 hx13))
                | (go_at_call 8; with_reducible refine (kD w13 (r1 _ (Ext.trans hE hx13')) (hT.ext (Ext.trans hE hx13'))).mono ?_; rintro e w14 ⟨rfl, hx14⟩)
                | ((with_reducible refine store_fresh64 ?_ (.tmp 19) (.tmp 85) ?_ P64 lP64 ?_ ?_ ?_); rfl; rfl; rfl; rfl; intro w15 ho19 hx15; have hx15' : Ext wr w15 := Ext.trans hx13' (Ext.trans hx14 hx15); have gx := rowrd64 ((((((hmx2.ext hx8).ext hx9).ext hx10).ext hx11).ext hx12).ext hx13 |>.ext hx14 |>.ext hx15); have gy := rowrd64 ((((((hmy.ext hx8).ext hx9).ext hx10).ext hx11).ext hx12).ext hx13 |>.ext hx14 |>.ext hx15); have gm := rowrd64 ((((((hm5.ext hx8).ext hx9).ext hx10).ext hx11).ext hx12).ext hx13 |>.ext hx14 |>.ext hx15); have g16 := rowrd32 ((((ho16.ext hx10).ext hx11).ext hx12).ext hx13 |>.ext hx14 |>.ext hx15); have g17 := rowrd64 (((ho17.ext hx12).ext hx13).ext hx14 |>.ext hx15); have g18 := rowrd32 ((ho18.ext hx14).ext hx15); have g19 := rowrd64 ho19)
                | (go_at_call 9; with_reducible refine (hsame64 D64 lD64 _ _ _ gx g17).mono ?_; rintro e w16 ⟨rfl, hx16⟩)
                | (go_at_call 9; with_reducible refine (hsame64 D64 lD64 _ _ _ (gy.ext hx16) (g17.ext hx16)).mono ?_; rintro e w17 ⟨rfl, hx17⟩)
                | (go_at_call 9; with_reducible refine (hsame64 P64 lP64 _ _ _ (gm.ext (Ext.trans hx16 hx17)) (g19.ext (Ext.trans hx16 hx17))).mono ?_; rintro e w18 ⟨rfl, hx18⟩))
          exact ⟨⟨2, by decide, rfl, Ext.trans hE (Ext.trans hx15' (Ext.trans hx16 (Ext.trans hx17 hx18)))⟩, by decide⟩
        · go_wp2
          go_ret
          exact ⟨rfl, hE⟩
end Go.Proofs.YtnlphndfnnmdaaaDoor
