/-
  The document's answer of layer 5: a text's sum, words of 64 bits.
-/
import Derived.Test.YtnlphndfnnmdaaaDoorHashO
set_option linter.unusedSimpArgs false
set_option linter.unusedVariables false
namespace Go.Proofs.YtnlphndfnnmdaaaDoor
open Go.RowKit Go.Cv Go.Cv.Hash Go.Cv.Dig
set_option maxRecDepth 20000 in
set_option maxHeartbeats 32000000 in
theorem sumref_64 (D : Kd) (s0 s1 s2 s3 s4 s5 K : Nat) (beg : St64) (A : Option Addr) (n c : Nat) (l : List UInt8) (w : World) (ok : D.Ok) (hDb : D.b = 64) (hkl : D.ks.length = K) (hK : 16 ≤ K) (hK2 : K ≤ 200)
    (r0 : Row w s0 3 [.int .i64 (D.p0 : Int), .int .i64 (D.p1 : Int), .int .i64 (D.p2 : Int)]) (r1 : Row w s1 3 [.int .i64 (D.q0 : Int), .int .i64 (D.q1 : Int), .int .i64 (D.q2 : Int)]) (r2 : Row w s2 3 [.int .i64 (D.r0 : Int), .int .i64 (D.r1 : Int), .int .i64 (D.r2 : Int)]) (r3 : Row w s3 3 [.int .i64 (D.t0 : Int), .int .i64 (D.t1 : Int), .int .i64 (D.t2 : Int)]) (r4 : Row w s4 46 (D.ks.map wv64)) (r5 : Row w s5 46 (beg.l.map wv64))
    (hl : l.length = n) (hnc : n ≤ c) (hr : Rd w A (l.map bv)) (bnd : n ≤ 5000000) :
    Calls Tryd.prog 18 #[.agg #[.int .i64 64, .slice (some ⟨s0, 0, none⟩) 3 3, .slice (some ⟨s1, 0, none⟩) 3 3, .slice (some ⟨s2, 0, none⟩) 3 3, .slice (some ⟨s3, 0, none⟩) 3 3, .int .u64 (n64 D.M), .slice (some ⟨s4, 0, none⟩) K K, .slice (some ⟨s5, 0, none⟩) 8 8], .slice A n c] w fun e w' => ∃ v, e = .returned v ∧ Out w' v (digG D 8 (zc64 n) ((fullG 8 (zc64 n) l).length / 128) beg l) ∧ Ext w w' := by
  have HL := Lib.hid hl
  have h128 : ∀ w : World, Rd (w.alloc (.cells #[.int .u8 128] 5)) (some ⟨w.heap.size, 0, none⟩) (([128] : List UInt8).map bv) := fun w => rdl64 w [.int .u8 128] _
  have h000 : ∀ w : World, Rd (w.alloc (.cells #[.int .u8 0] 5)) (some ⟨w.heap.size, 0, none⟩) (([0] : List UInt8).map bv) := fun w => rdl64 w [.int .u8 0] _
  have hone : ∀ (w : World) (x : UInt8), Rd (w.alloc (.cells #[.int .u8 (n8 x)] 5)) (some ⟨w.heap.size, 0, none⟩) ([x].map bv) := fun w x => rdl64 w [bv x] _
  have hblk : ∀ (B bh hc cx : Nat) (s : St64) (hsp : List Value) (A : Option Addr) (ws : List UInt64) (w2 : World), Ext w w2 → s0 < B → s1 < B → s2 < B → s3 < B → s4 < B → B ≤ w2.heap.size → Row w2 bh 46 (s.l.map wv64 ++ hsp) → bh < B → s4 ≠ bh → w2.ownsRow B 46 1 (.slice A 16 cx) 16 (ws.map wv64) →
      Calls Tryd.prog 24 #[.agg #[.int .i64 64, .slice (some ⟨s0, 0, none⟩) 3 3, .slice (some ⟨s1, 0, none⟩) 3 3, .slice (some ⟨s2, 0, none⟩) 3 3, .slice (some ⟨s3, 0, none⟩) 3 3, .int .u64 (n64 D.M), .slice (some ⟨s4, 0, none⟩) K K, .slice (some ⟨s5, 0, none⟩) 8 8], .slice (some ⟨bh, 0, none⟩) 8 hc, .slice A 16 cx] w2 fun e w' => e = .returned (.tuple #[]) ∧ Row w' bh 46 ((blockG D ws s).l.map wv64 ++ hsp) ∧ Under B [bh] w2 w' := fun B bh hc cx s hsp A ws w2 hx l0 l1 l2 l3 l4 hB hH lH n4 ho => by
    have := block_g D s0 s1 s2 s3 s4 s5 K B bh hc cx s hsp A ws w2 ok hkl hK hK2 (r0.ext hx) (r1.ext hx) (r2.ext hx) (r3.ext hx) (r4.ext hx) l0 l1 l2 l3 l4 hB hH lH n4 ho
    rw [hDb] at this
    exact this
  have l0 := r0.lt
  have l1 := r1.lt
  have l2 := r2.lt
  have l3 := r3.lt
  have l4 := r4.lt
  obtain ⟨FU, hFU⟩ : ∃ FU, FU = fullG 8 (zc64 n) l := ⟨_, rfl⟩
  obtain ⟨F, hF⟩ : ∃ F, F = FU.length / 128 := ⟨_, rfl⟩
  obtain ⟨TG, hTG⟩ : ∃ TG, TG = sumBG D 8 FU F 0 beg := ⟨_, rfl⟩
  have hdg : digG D 8 (zc64 n) ((fullG 8 (zc64 n) l).length / 128) beg l = outsG TG 8 (8 * 8) := by rw [hTG, hF, hFU]; rfl
  rw [hdg]
  have hFl := fullG_len 8 (zc64 n) l
  rw [← hFU] at hFl
  have hFlx := Lib.hid hFl
  have hFUx := Lib.hid hFU
  have hFx := Lib.hid hF
  have hTGx := Lib.hid hTG
  clear hdg hFU hF hTG hFl hkl hDb
  go_enter Tryd.func18, Tryd.ntmps18
  go_upto_region 1 with fail
  obtain ⟨W0, hW0⟩ : ∃ W0, W0 = w.alloc (.cells #[.int .i64 64, .slice (some ⟨s0, 0, none⟩) 3 3, .slice (some ⟨s1, 0, none⟩) 3 3, .slice (some ⟨s2, 0, none⟩) 3 3, .slice (some ⟨s3, 0, none⟩) 3 3, .int .u64 (n64 D.M), .slice (some ⟨s4, 0, none⟩) K K, .slice (some ⟨s5, 0, none⟩) 8 8] 53) := ⟨_, rfl⟩
  obtain ⟨bk, hbk⟩ : ∃ bk, bk = w.heap.size := ⟨_, rfl⟩
  rw [← hW0, ← hbk]
  have hx0 : Ext w W0 := by rw [hW0]; exact ext_alloc _ _
  have hR : Row W0 bk 53 [.int .i64 64, .slice (some ⟨s0, 0, none⟩) 3 3, .slice (some ⟨s1, 0, none⟩) 3 3, .slice (some ⟨s2, 0, none⟩) 3 3, .slice (some ⟨s3, 0, none⟩) 3 3, .int .u64 (n64 D.M), .slice (some ⟨s4, 0, none⟩) K K, .slice (some ⟨s5, 0, none⟩) 8 8] := by rw [hW0, hbk]; exact Row.alloc w [.int .i64 64, .slice (some ⟨s0, 0, none⟩) 3 3, .slice (some ⟨s1, 0, none⟩) 3 3, .slice (some ⟨s2, 0, none⟩) 3 3, .slice (some ⟨s3, 0, none⟩) 3 3, .int .u64 (n64 D.M), .slice (some ⟨s4, 0, none⟩) K K, .slice (some ⟨s5, 0, none⟩) 8 8] _
  have hbkB : w.heap.size ≤ bk := by omega
  have c0 : W0.cell? ⟨bk, 0, none⟩ = some (.int .i64 64) := (hR.cell (i := 0) (by simp)).trans rfl
  have hr0 := hr.ext hx0
  have hq5 : (.int .i64 64 : Value) = .int .i64 (64 : Int) := rfl
  clear hW0 hbk hr hq5
  go_wp2_with (first
    | (at_builtin; refine wpList_appb0 rfl (.tmp 22) (.tmp 23) 22 5 rfl u8rowH64 rfl A n c l rfl hl hr0 (by omega) ?_; intro A3 c3 w3 ho3 hc3 hm3 hr3 hx3)
    | (at_builtin; refine wpList_appb rfl (.tmp 25) (.tmp 26) 22 5 rfl u8rowH64 W0.heap.size _ n l rfl (own_ext ho3 (ext_alloc _ _)) (some _) 1 1 [128] rfl rfl (h128 w3) (by omega) (Nat.le_trans hx3.size (ext_alloc _ _).size) ?_; intro A4 c4 w4 ho4 hc4 hm4 hr4 hE4; have hx4 := hE4 W0 (hx3.trans (ext_alloc _ _)) (Nat.le_refl _); clear hE4))
  obtain ⟨gb, hgb⟩ : ∃ g, g = W0.heap.size := ⟨_, rfl⟩
  rw [← hgb] at ho4
  have hgx := Lib.hid hgb
  have hbg : w.heap.size ≤ gb := by have := hx0.size; omega
  have hbkg : bk < gb := by have := hR.lt; omega
  obtain ⟨Z, hZ⟩ : ∃ Z, Z = zc64 n := ⟨_, rfl⟩
  have hZB : Z < 128 := by rw [hZ]; unfold zc64; omega
  have hZ0 : (n + 1 + Z + 16) % 128 = 0 := by rw [hZ]; unfold zc64; omega
  have hZ1 : ∀ j, j < Z → ¬ (n + 1 + j + 16) % 128 = 0 := fun j hj => by rw [hZ] at hj; unfold zc64 at hj; omega
  rw [← hZ] at hFUx hFlx
  clear hZ hgb ho3 hr3 hr4
  go_loopw [6] (fun t6 wr => ∃ (j q : Nat), Hid (q = n + 1 + j) ∧ j ≤ Z ∧ wr.ownsRow gb 5 1 t6 q ((l ++ [128] ++ List.replicate j 0).map bv) ∧ Ext W0 wr) (fun t6 _ => match t6 with | .slice _ k _ => n + 1 + Z - k | _ => 0)
  case atStart => exact ⟨0, n + 1, Lib.hid rfl, Nat.zero_le _, by simpa using ho4, hx4⟩
  case round =>
    obtain ⟨j, q, hqx, hjZ, ho, hE⟩ := hrel
    have hq := hqx.out
    obtain ⟨C, cc, rfl, hqc, hcm, hrd, -⟩ := own_form ho
    have hszE : gb ≤ wr.heap.size := by have := hE.size; have := hgx.out; omega
    by_cases hjz : j < Z
    · have hne := hZ1 j hjz
      have m1 : (((q : Int) + 16) % 128 != 0) = true := by
        rw [bne_iff_ne]; omega
      have m2 : ¬ ((q : Int) + 16) % 128 = 0 := by omega
      have m3 : ¬ ((q : Int) + 16).tmod 128 = 0 := by rw [Int.tmod_eq_emod_of_nonneg (by omega)]; omega
      have hrep : Hid (l ++ [128] ++ List.replicate (j + 1) 0 = (l ++ [128] ++ List.replicate j 0) ++ [0]) := Lib.hid (by rw [List.replicate_succ']; simp)
      have hq2 : Hid (q + 1 = n + 1 + (j + 1)) := Lib.hid (by omega)
      have hqb : q ≤ 5000200 := by omega
      have hqm : n + 1 + Z - (q + 1) < n + 1 + Z - q := by omega
      clear hne hrd hq
      generalize l ++ [128] ++ List.replicate j 0 = lj at *
      go_wp2_with (at_builtin; refine wpList_appb rfl (.tmp 37) (.tmp 38) 22 5 rfl u8rowH64 gb _ q lj rfl (own_ext ho (ext_alloc _ _)) (some _) 1 1 [0] rfl rfl (h000 wr) (by omega) (by simp; omega) ?_; intro A5 c5 w5 ho5 hc5 hm5 hr5 hE5; have hx5 := hE5 W0 (hE.trans (ext_alloc _ _)) (Nat.le_of_eq hgx.out.symm); clear hE5)
      exact ⟨⟨j + 1, q + 1, hq2, by omega, by rw [hrep.out]; exact ho5, hx5⟩, by simpa using hqm⟩
    · obtain rfl : Z = j := by omega
      have m1 : (((q : Int) + 16) % 128 != 0) = false := by
        rw [bne_eq_false_iff_eq]; omega
      have m2 : ((q : Int) + 16) % 128 = 0 := by omega
      have m3 : ((q : Int) + 16).tmod 128 = 0 := by rw [Int.tmod_eq_emod_of_nonneg (by omega)]; omega
      have hqb : q ≤ 5000200 := by omega
      have hqB : Hid ((q + 16) % 128 = 0) := Lib.hid (by omega)
      have hllj : (l ++ [128] ++ List.replicate Z 0).length = q := by rw [hq]; simp; omega
      have hllx := Lib.hid hllj
      have hFUl : Hid (FU = (l ++ [128] ++ List.replicate Z 0) ++ lensG n 16 16) := Lib.hid (by rw [hFUx.out]; unfold fullG; rw [HL.out])
      generalize l ++ [128] ++ List.replicate Z 0 = lj at *
      clear hZ1 hq hZ0 hllj hrd
      go_wp2
      clear m1 m2 m3
      go_loopw [6, 8] (fun t6 t8 wr => ∃ (x : Int) (k q' : Nat), t8 = .int .i64 x ∧ -1 ≤ x ∧ x < 16 ∧ Hid (x + 1 + k = 16) ∧ Hid (q' = q + k) ∧ wr.ownsRow gb 5 1 t6 q' ((lj ++ lensG n 16 k).map bv) ∧ Ext W0 wr) (fun _ t8 _ => (intOf t8 + 1).toNat)
      case atStart => exact ⟨15, 0, q, rfl, by omega, by omega, Lib.hid rfl, Lib.hid rfl, by simpa [lensG] using ho, hE⟩
      case round =>
        clear ho hE hszE
        obtain ⟨x, k, q', rfl, hx1, hx2, hxk, hqk, ho, hE⟩ := hrel
        have hszE : gb ≤ wr.heap.size := by have := hE.size; have := hgx.out; omega
        have hqk' := hqk.out
        have hxk' := hxk.out
        by_cases hx0' : 0 ≤ x
        · obtain ⟨i, rfl⟩ : ∃ i : Nat, x = (i : Int) := ⟨x.toNat, by omega⟩
          obtain ⟨C, cc, rfl, hqc, hcm, hrd, -⟩ := own_form ho
          have hqb2 : q' ≤ 5000220 := by omega
          have i0 : (0 : Int) ≤ (i : Int) := hx0'
          have hv1 : IntKind.i64.wrap ((i : Int) - 1) = (i : Int) - 1 := IntWalk.i64_in _ (by omega)
          have hnext : Hid (lensG n 16 (k + 1) = lensG n 16 k ++ [lenB n i]) := Lib.hid (by rw [lensG_succ, show 16 - 1 - k = i from by omega])
          have hq2 : Hid (q' + 1 = q + (k + 1)) := Lib.hid (by omega)
          have hx3 : Hid ((i : Int) - 1 + 1 + ((k + 1 : Nat) : Int) = 16) := Lib.hid (by push_cast; omega)
          clear hrd hqk' hxk'
          have hfin : ∀ (A' : Option Addr) (c' : Nat) (w' : World), w'.ownsRow gb 5 1 (.slice A' (q' + 1) c') (q' + 1) (((lj ++ lensG n 16 k) ++ [lenB n i]).map bv) → w'.ownsRow gb 5 1 (.slice A' (q' + 1) c') (q' + 1) ((lj ++ lensG n 16 (k + 1)).map bv) := fun A' c' w' h => by
            rw [hnext.out, ← List.append_assoc]; exact h
          clear hnext
          generalize lj ++ lensG n 16 k = lk at *
          by_cases hi0 : i = 0
          · subst hi0
            have hlb : lenB n 0 = ((Go.Cv.u64 (n : Int) % 32).toUInt8 * 8) := rfl
            rw [hlb] at hfin
            clear hlb
            go_wp2_with (at_builtin; refine wpList_appb rfl (.tmp 66) (.tmp 68) 22 5 rfl u8rowH64 gb _ q' lk rfl (own_ext ho (ext_alloc _ _)) (some _) 1 1 [((Go.Cv.u64 (n : Int) % 32).toUInt8 * 8)] rfl rfl (hone wr _) (by omega) (by simp; omega) ?_; intro A5 c5 w5 ho5 hc5 hm5 hr5 hE5; have hx5 := hE5 W0 (hE.trans (ext_alloc _ _)) (Nat.le_of_eq hgx.out.symm); clear hE5)
            exact ⟨⟨-1, k + 1, q' + 1, by go_num, by omega, by omega, by simpa using hx3, hq2, hfin _ _ _ ho5, hx5⟩, by simp [intOf]⟩
          · have hi0' : ¬ ((i : Int) = 0) := by omega
            by_cases hi8 : i ≤ 8
            · have hi8' : (i : Int) ≤ 8 := by omega
              obtain ⟨e, he⟩ : ∃ e, e = 8 * i - 3 := ⟨_, rfl⟩
              have e1 : 8 * (i : Int) - 3 = (e : Int) := by omega
              have e2 : 0 ≤ (e : Int) := by omega
              have e3 : (e : Int) ≤ 64 := by omega
              have e4 := shr_eq64 (Go.Cv.u64 (n : Int)) e (by omega)
              have hlb : lenB n i = (Go.Cv.u64 (n : Int) >>> UInt64.ofNat e).toUInt8 := by rw [he]; unfold lenB; rw [if_neg hi0, if_pos hi8]
              rw [hlb] at hfin
              clear hlb he
              go_wp2_with (at_builtin; refine wpList_appb rfl (.tmp 66) (.tmp 68) 22 5 rfl u8rowH64 gb _ q' lk rfl (own_ext ho (ext_alloc _ _)) (some _) 1 1 [(Go.Cv.u64 (n : Int) >>> UInt64.ofNat e).toUInt8] rfl rfl (hone wr _) (by omega) (by simp; omega) ?_; intro A5 c5 w5 ho5 hc5 hm5 hr5 hE5; have hx5 := hE5 W0 (hE.trans (ext_alloc _ _)) (Nat.le_of_eq hgx.out.symm); clear hE5)
              exact ⟨⟨(i : Int) - 1, k + 1, q' + 1, by go_num, by omega, by omega, hx3, hq2, hfin _ _ _ ho5, hx5⟩, by simp [intOf]; try omega⟩
            · have hi8' : ¬ ((i : Int) ≤ 8) := by omega
              have hlb : lenB n i = 0 := by unfold lenB; rw [if_neg hi0, if_neg hi8]
              rw [hlb] at hfin
              clear hlb
              go_wp2_with (at_builtin; refine wpList_appb rfl (.tmp 66) (.tmp 68) 22 5 rfl u8rowH64 gb _ q' lk rfl (own_ext ho (ext_alloc _ _)) (some _) 1 1 [0] rfl rfl (h000 wr) (by omega) (by simp; omega) ?_; intro A5 c5 w5 ho5 hc5 hm5 hr5 hE5; have hx5 := hE5 W0 (hE.trans (ext_alloc _ _)) (Nat.le_of_eq hgx.out.symm); clear hE5)
              exact ⟨⟨(i : Int) - 1, k + 1, q' + 1, by go_num, by omega, by omega, hx3, hq2, hfin _ _ _ ho5, hx5⟩, by simp [intOf]; try omega⟩
        · obtain rfl : x = -1 := by omega
          obtain rfl : k = 16 := by omega
          have hFUk : Hid (lj ++ lensG n 16 16 = FU) := Lib.hid hFUl.out.symm
          rw [hFUk.out] at ho
          obtain ⟨gf, fsp, rfl, hgf, hgm, hRf, hfl⟩ := own_row ho (by omega)
          rw [List.length_map] at hfl
          have hflx := Lib.hid hfl
          have hqF : Hid (q' = 128 * F) := Lib.hid (by rw [hFx.out, hfl]; have := hqB.out; omega)
          have r5w := ((r5.ext hx0).ext hE)
          have l5 := r5.lt
          have c7 : wr.cell? ⟨bk, 7, none⟩ = some (.slice (some ⟨s5, 0, none⟩) 8 8) := ((hR.ext hE).cell (i := 7) (by simp)).trans rfl
          have hrd5 : Rd wr (some ⟨s5, 0, none⟩) (beg.l.map wv64) := Rd.ofRow64 r5w 0
          have hq20 : q' ≤ 5000220 := by omega
          clear hqk' hxk' hFUk hfl ho r5w
          go_wp2_with (at_builtin; refine wpList_app0 rfl (.tmp 70) (.tmp 72) 49 46 8 rfl u64row rfl (some ⟨s5, 0, none⟩) 8 8 (beg.l.map wv64) rfl rfl hrd5 (one_map64 _) (by unfold maxLen; omega) (by omega) ?_; intro A6 c6 w7 ho7 hc6 hm6 hr6 hx7; obtain ⟨bh, hsp, ev, hbh, hhm, hRh, -⟩ := own_row ho7 (by decide); injection ev with eA _ ec; subst eA ec)
          have hE7 : Ext W0 w7 := hE.trans hx7
          have hRf7 := hRf.ext hx7
          have hlgf := hRf.lt
          have nfh : gf ≠ bh := by omega
          have nkh : bk ≠ bh := by omega
          have hbhg : gb ≤ bh := by omega
          have hx07 : Ext w w7 := hx0.trans hE7
          have hlh := hRh.lt
          clear hrd5 c7 hr6 ho7 hE hx7 hRf hhm
          go_loopw [11] (fun t11 wr => ∃ (f at' : Nat) (s : St64), t11 = .int .i64 at' ∧ Hid (at' + 128 * f = q') ∧ Row wr bh 46 (s.l.map wv64 ++ hsp) ∧ Hid (sumBG D 8 FU f at' s = TG) ∧ Keep [bh] w7 wr) (fun t11 _ => q' - (intOf t11).toNat)
          case atStart => exact ⟨F, 0, beg, rfl, Lib.hid (by rw [Nat.zero_add]; exact hqF.out.symm), hRh, Lib.hid hTGx.out.symm, Keep.refl _ _⟩
          case round =>
            clear hRh
            obtain ⟨f, at', s, rfl, hat, hRh, hsm, hK⟩ := hrel
            have hat' := hat.out
            have hsz := hK.size
            rcases f with _ | f
            · have hs : s = TG := hsm.out
              subst hs
              have hatq : at' = q' := by omega
              subst hatq
              clear hat hat' hsm hK2
              have hxw : Ext w wr := Below.trans hx07 (hK.below (fun x hx => by simp at hx; omega) hx07.size)
              go_wp2
              obtain ⟨W8, hW8⟩ : ∃ W8, W8 = wr := ⟨_, rfl⟩
              subst hW8
              go_loopw [16, 17] (fun t16 t17 wr => ∃ (i q2 : Nat), i ≤ 8 ∧ t17 = .int .i64 i ∧ Hid (q2 = 8 * i) ∧ wr.ownsRow W8.heap.size 5 1 t16 q2 ((outsG s 8 q2).map bv) ∧ Ext W8 wr) (fun _ t17 _ => 8 - (intOf t17).toNat)
              case atStart => exact ⟨0, 0, by decide, rfl, Lib.hid rfl, World.ownsRow_nil _ _ _ _, Ext.refl _⟩
              case round =>
                obtain ⟨i, q2, hi, rfl, hq2, ho, hx8⟩ := hrel
                by_cases hi8 : i < 8
                · have hi8' : (i : Int) < 8 := by omega
                  have bi : 0 ≤ (i : Int) ∧ (i : Int) < 8 := by omega
                  go_wp2
                  go_loopw [16, 18] (fun t16 t18 wr => ∃ (x : Int) (m q3 : Nat), t18 = .int .i64 x ∧ -1 ≤ x ∧ x < 8 ∧ Hid (x + 1 + m = 8) ∧ Hid (q3 = 8 * i + m) ∧ wr.ownsRow W8.heap.size 5 1 t16 q3 ((outsG s 8 q3).map bv) ∧ Ext W8 wr) (fun _ t18 _ => (intOf t18 + 1).toNat)
                  case atStart => exact ⟨7, 0, q2, rfl, by omega, by omega, Lib.hid rfl, Lib.hid (by rw [hq2.out]; rfl), ho, hx8⟩
                  case round =>
                    clear ho hx8
                    obtain ⟨x, m, q3, rfl, hx1, hx2, hxm, hq3, ho, hx8⟩ := hrel
                    have hxm' := hxm.out
                    have hq3' := hq3.out
                    have hs8 := hx8.size
                    by_cases hx0' : 0 ≤ x
                    · obtain ⟨j, rfl⟩ : ∃ j : Nat, x = (j : Int) := ⟨x.toNat, by omega⟩
                      obtain ⟨C, cc, rfl, hqc, hcm, hrd, -⟩ := own_form ho
                      have i0 : (0 : Int) ≤ (j : Int) := hx0'
                      have hv1 : IntKind.i64.wrap ((j : Int) - 1) = (j : Int) - 1 := IntWalk.i64_in _ (by omega)
                      obtain ⟨e, he⟩ : ∃ e, e = 8 * j := ⟨_, rfl⟩
                      have e1 : 8 * (j : Int) = (e : Int) := by omega
                      have e2 : 0 ≤ (e : Int) := by omega
                      have e3 : (e : Int) ≤ 64 := by omega
                      have ci : wr.cell? ⟨bh, i, none⟩ = some (.int .u64 (n64 (s.l.getD i 0))) := Row.at64 (hRh.ext hx8) (by show i < 8; omega)
                      have e4 := shr_eq64 (s.l.getD i 0) e (by omega)
                      have hob : Hid (outsG s 8 (q3 + 1) = outsG s 8 q3 ++ [(s.l.getD i 0 >>> UInt64.ofNat e).toUInt8]) := Lib.hid (by
                        rw [outsG_succ]
                        unfold outAtG
                        rw [show q3 / 8 = i from by omega, show 8 * (8 - 1 - q3 % 8) = e from by omega])
                      have hq4 : Hid (q3 + 1 = 8 * i + (m + 1)) := Lib.hid (by omega)
                      have hx3 : Hid ((j : Int) - 1 + 1 + ((m + 1 : Nat) : Int) = 8) := Lib.hid (by push_cast; omega)
                      have hqb4 : q3 < 64 := by omega
                      generalize s.l.getD i 0 = y at *
                      clear hrd hq3' hxm' he
                      generalize outsG s 8 q3 = lq at *
                      go_wp2_with (at_builtin; refine wpList_appb rfl (.tmp 123) (.tmp 132) 22 5 rfl u8rowH64 W8.heap.size _ q3 lq rfl (own_ext ho (ext_alloc _ _)) (some _) 1 1 [(y >>> UInt64.ofNat e).toUInt8] rfl rfl (hone wr _) (by omega) (by simp; omega) ?_; intro A5 c5 w5 ho5 hc5 hm5 hr5 hE5; have hx5 := hE5 W8 (hx8.trans (ext_alloc _ _)) (Nat.le_refl _); clear hE5)
                      exact ⟨⟨(j : Int) - 1, m + 1, q3 + 1, by go_num, by omega, by omega, hx3, hq4, by rw [hob.out]; exact ho5, hx5⟩, by simp [intOf]; try omega⟩
                    · obtain rfl : x = -1 := by omega
                      have hq5 : Hid (q3 = 8 * (i + 1)) := Lib.hid (by omega)
                      clear hq3' hxm'
                      go_wp2
                      exact ⟨⟨i + 1, q3, by omega, by go_num, hq5, ho, hx8⟩, by simp [intOf]; omega⟩
                · obtain rfl : i = 8 := by omega
                  obtain rfl : q2 = 64 := hq2.out
                  obtain ⟨C, cc, rfl, hqc, hcm, hrd, -⟩ := own_form ho
                  go_wp2
                  go_ret
                  exact ⟨_, rfl, ⟨C, 64, cc, rfl, outsG_len _ _ _, hqc, hrd⟩, hxw.trans hx8⟩
            · have hat2 : at' + 128 ≤ q' := by omega
              have hatI : (at' : Int) < (q' : Int) := by omega
              have hsm2 : sumBG D 8 FU f (at' + 16 * 8) (blockG D (wordsAt FU 8 at' 16) s) = TG := hsm.out
              have hsmx := Lib.hid hsm2
              have hatx : Hid (at' + 128 + 128 * f = q') := Lib.hid (by omega)
              have hRfr := hRf7.keep hK (by simpa using nfh)
              have hRkr := (hR.ext hE7).keep hK (by simpa using nkh)
              have hlbh := hRh.lt
              have hxw : Ext w wr := Below.trans hx07 (hK.below (fun x hx => by simp at hx; omega) hx07.size)
              have hwsz := hxw.size
              clear hsm hsm2 hat hat'
              go_wp2
              obtain ⟨W8, hW8⟩ : ∃ W8, W8 = wr := ⟨_, rfl⟩
              subst hW8
              go_loopw [12, 13] (fun t12 t13 wr => ∃ i : Nat, i ≤ 16 ∧ t13 = .int .i64 i ∧ wr.ownsRow W8.heap.size 46 1 t12 i ((wordsAt FU 8 at' i).map wv64) ∧ Ext W8 wr) (fun _ t13 _ => 16 - (intOf t13).toNat)
              case atStart => exact ⟨0, by decide, rfl, World.ownsRow_nil _ _ _ _, Ext.refl _⟩
              case round =>
                obtain ⟨i, hi, rfl, ho, hx8⟩ := hrel
                obtain ⟨C, cc, rfl, hqc, hcm, hrd, -⟩ := own_form ho
                by_cases hi16 : i < 16
                · have hi16' : (i : Int) < 16 := by omega
                  obtain ⟨lo, hlo⟩ : ∃ lo, lo = at' + 8 * i := ⟨_, rfl⟩
                  have i1 : (at' : Int) + 8 * (i : Int) = (lo : Int) := by omega
                  have hwd : Hid (wordsAt FU 8 at' (i + 1) = wordsAt FU 8 at' i ++ [wordAt FU lo 8]) := Lib.hid (by rw [wordsAt_succ, hlo])
                  have hlq : lo + 8 ≤ q' := by omega
                  clear hrd hlo
                  go_wp2
                  obtain ⟨W9, hW9⟩ : ∃ W9, W9 = wr := ⟨_, rfl⟩
                  subst hW9
                  go_loopw [14, 15] (fun t14 t15 wr => ∃ j : Nat, j ≤ 8 ∧ t15 = .int .i64 j ∧ t14 = .int .u64 (n64 (wordAt FU lo j)) ∧ Ext W9 wr) (fun _ t15 _ => 8 - (intOf t15).toNat)
                  case atStart => exact ⟨0, by decide, rfl, rfl, Ext.refl _⟩
                  case round =>
                    obtain ⟨j, hj, rfl, rfl, hx9⟩ := hrel
                    by_cases hjS : j < 8
                    · have hjS' : (j : Int) < 8 := by omega
                      obtain ⟨p, hp⟩ : ∃ p, p = lo + j := ⟨_, rfl⟩
                      have p1 : (lo : Int) + (j : Int) = (p : Int) := by omega
                      have p2 : 0 ≤ (p : Int) ∧ (p : Int) < (q' : Int) := by omega
                      have hfl := hflx.out
                      have cp : wr.cell? ⟨gf, p, none⟩ = some (.int .u8 (n8 (FU.getD p 0))) := by
                        have h1 := ((hRfr.ext hx8).ext hx9).cell (i := p) (by simp; omega)
                        rw [List.getElem_append_left (by rw [List.length_map]; omega), List.getElem_map] at h1
                        rw [h1, List.getD_eq_getElem?_getD, List.getElem?_eq_getElem (by omega)]
                        rfl
                      have hnx : Hid (wordAt FU lo (j + 1) = 256 * wordAt FU lo j + (FU.getD p 0).toUInt64) := Lib.hid (by rw [hp]; rfl)
                      clear hfl hp
                      generalize FU.getD p 0 = b at *
                      generalize wordAt FU lo j = y at *
                      go_wp2
                      exact ⟨⟨j + 1, by omega, by go_num, by rw [hnx.out], hx9⟩, by simp [intOf]; omega⟩
                    · obtain rfl : j = 8 := by omega
                      have hx89 : Ext W8 wr := hx8.trans hx9
                      have ho9 := own_ext ho hx9
                      have h89 := hx89.size
                      generalize wordAt FU lo 8 = y at *
                      go_wp2_with (at_builtin; refine wpList_app rfl (.tmp 105) (.tmp 107) 49 46 8 rfl u64row W8.heap.size _ i _ rfl (own_ext ho9 (ext_alloc _ _)) _ 1 1 [wv64 y] rfl rfl (rd_new_one _ _ _) (one_int _ _) (by unfold maxLen; omega) (by omega) (Nat.le_trans h89 (ext_alloc wr (.cells #[wv64 y] 46)).size) ?_; intro A2 c2 w2 ho2 hc2 hm2 hr2 hE2 hg2; have hx2 := hE2 W8 (hx89.trans (ext_alloc _ _)) (Nat.le_refl _); clear hE2)
                      exact ⟨⟨i + 1, by omega, by go_num, by rw [hwd.out, List.map_append]; exact ho2, hx2⟩, by simp [intOf]; omega⟩
                · obtain rfl : i = 16 := by omega
                  have hbk2 := hblk W8.heap.size bh (8 + hsp.length) cc s hsp C (wordsAt FU 8 at' 16) wr (hxw.trans hx8) (by omega) (by omega) (by omega) (by omega) (by omega) hx8.size (hRh.ext hx8) hlbh (by omega) ho
                  have hRkk := hRkr.ext hx8
                  have c0 : wr.cell? ⟨bk, 0, none⟩ = some (.int .i64 64) := (hRkk.cell (i := 0) (by simp)).trans rfl
                  have c1 : wr.cell? ⟨bk, 1, none⟩ = some (.slice (some ⟨s0, 0, none⟩) 3 3) := (hRkk.cell (i := 1) (by simp)).trans rfl
                  have c2 : wr.cell? ⟨bk, 2, none⟩ = some (.slice (some ⟨s1, 0, none⟩) 3 3) := (hRkk.cell (i := 2) (by simp)).trans rfl
                  have c3 : wr.cell? ⟨bk, 3, none⟩ = some (.slice (some ⟨s2, 0, none⟩) 3 3) := (hRkk.cell (i := 3) (by simp)).trans rfl
                  have c4 : wr.cell? ⟨bk, 4, none⟩ = some (.slice (some ⟨s3, 0, none⟩) 3 3) := (hRkk.cell (i := 4) (by simp)).trans rfl
                  have c5 : wr.cell? ⟨bk, 5, none⟩ = some (.int .u64 (n64 D.M)) := (hRkk.cell (i := 5) (by simp)).trans rfl
                  have c6 : wr.cell? ⟨bk, 6, none⟩ = some (.slice (some ⟨s4, 0, none⟩) K K) := (hRkk.cell (i := 6) (by simp)).trans rfl
                  have c7 : wr.cell? ⟨bk, 7, none⟩ = some (.slice (some ⟨s5, 0, none⟩) 8 8) := (hRkk.cell (i := 7) (by simp)).trans rfl
                  clear hrd
                  go_wp2_with (go_at_call 24; with_reducible refine hbk2.mono ?_; rintro e w2 ⟨rfl, hRh2, hun⟩)
                  refine ⟨⟨f, at' + 128, _, by go_num, hatx, hRh2, hsmx, ?_⟩, by simp [intOf]; omega⟩
                  refine hK.trans (bs := [bh]) (cs := [bh]) ⟨hun.os.trans hx8.os, hun.tape.trans hx8.tape, hun.output.trans hx8.output, Nat.le_trans hx8.size hun.size, fun k hk hn => (hun.keep k hk hn).trans (hx8.block k hk)⟩ fun x hx => .inl hx
end Go.Proofs.YtnlphndfnnmdaaaDoor
