/-
  A hasher that took a text in pieces: the statement HashPieces.
-/
import Derived.Test.YtnlphndfnnmdaaaDoorHashW
import Derived.Test.YtnlphndfnnmdaaaDoorArgs
set_option linter.unusedSimpArgs false
set_option linter.unusedVariables false
namespace Go.Cv.Hash
open Go.RowKit
theorem flat_succ {R : List (List UInt8)} {k : Nat} (h : k < R.length) : (R.take (k + 1)).flatten = (R.take k).flatten ++ R[k] := by
  rw [List.take_succ_eq_append_getElem h, List.flatten_append]
  simp
theorem flat_le (R : List (List UInt8)) (k : Nat) : (R.take k).flatten.length ≤ (R.map List.length).sum := by
  have h : (R.take k).flatten.length + (R.drop k).flatten.length = R.flatten.length := by
    rw [← List.length_append, ← List.flatten_append, List.take_append_drop]
  rw [List.length_flatten] at h
  rw [List.length_flatten] at h
  rw [List.length_flatten] at h
  rw [List.length_flatten]
  omega
end Go.Cv.Hash
namespace Go.Proofs.YtnlphndfnnmdaaaDoor
open Go.RowKit Go.Cv Go.Cv.Hash Go.Cv.Dig
theorem HsK.ne_own {w : World} {B b B2 n : Nat} {wide : Bool} {l : List UInt8} {g : Option Nat} {v : Value} {xs : List Value} (h : HsK w B b wide l g) (ho : w.ownsRow B2 5 1 v n xs) : v.ownBlock ≠ some b := fun e => by
  rcases ho.2 with ⟨rfl, _⟩ | ⟨gg, cap', cur, rfl, _, hgg, _⟩
  · simp [Value.ownBlock] at e
  · simp only [Value.ownBlock, Option.some.injEq] at e
    subst e
    obtain ⟨_, v, hbk, _⟩ := h
    rw [hgg] at hbk
    simp only [Option.some.injEq, Obj.cells.injEq] at hbk
    exact absurd hbk.2.1 (by decide)
theorem HsK.ne_row2 {w : World} {B b m : Nat} {wide : Bool} {l : List UInt8} {g : Option Nat} {T : TypeId} {cs : List Value} (h : HsK w B b wide l g) (hr : Row w m T cs) (hT : T ≠ 5) : ∀ x, g = some x → x ≠ m := fun x hx e => by
  obtain ⟨_, v, _, ho, rfl⟩ := h
  subst e
  exact own_ty_ne ho ⟨_, _, hr⟩ hT.symm hx.symm

set_option maxRecDepth 20000 in
set_option maxHeartbeats 16000000 in
theorem pieces_32 (A : Option Addr) (n cap : Nat) (R : List (List UInt8)) (w : World) (hT : Tabs w) (hB : ArgBB w A n cap R) (hm : n + (R.map List.length).sum ≤ 1048576) :
    Calls Tryd.prog 4 #[.slice A n cap, .bool false] w fun e w' => e = .returned (.bool true) ∧ Ext w w' := by
  have hs := shown_any w hT
  obtain ⟨hl, hle, hmax, vs, hr, ha⟩ := hB
  have hend : ∀ k, (R.take k).flatten.length ≤ 1048576 := fun k => by
    have := flat_le R k
    omega
  have hsmall : ∀ r ∈ R, r.length ≤ 1048576 := fun r hr => by
    have : r.length ≤ (R.map List.length).sum := mem_le_sum (List.mem_map_of_mem hr)
    omega
  have hn20 : n ≤ 1048576 := by omega
  clear hm
  go_enter Tryd.func4, Tryd.ntmps4
  go_wp2_with (first
    | (go_at_call 6; with_reducible refine hs.mono ?_; rintro e w0 ⟨rfl, hx0⟩)
    | (go_at_call 12; with_reducible refine (new_any false w0).mono ?_; rintro e w1 ⟨rfl, hH1, hx1⟩))
  obtain ⟨g1, hG1⟩ := HsK.of hH1
  obtain ⟨b, hb⟩ : ∃ b, b = w0.heap.size := ⟨_, rfl⟩
  rw [← hb] at hG1 ⊢
  have hbx := Lib.hid hb
  clear hb hH1
  have hb0 : w0.heap.size ≤ b := Nat.le_of_eq hbx.out.symm
  have hxw1 : Ext w w1 := hx0.trans hx1
  go_loopw [7, 8] (fun va vi wr => ∃ (k q : Nat) (g : Option Nat), k ≤ n ∧ vi = .int .i64 k ∧ Hid (q = (R.take k).flatten.length) ∧ wr.ownsRow b 5 1 va q ((R.take k).flatten.map bv) ∧ HsK wr b b false (R.take k).flatten g ∧ Hid (∀ x, g = some x → va.ownBlock ≠ some x) ∧ Below b w0 wr ∧ b ≤ wr.heap.size) (fun _ vi _ => n - (intOf vi).toNat)
  case atStart =>
    refine ⟨0, 0, g1, Nat.zero_le _, rfl, Lib.hid rfl, World.ownsRow_nil _ _ _ _, hG1, Lib.hid (fun x _ h => by simp [Value.ownBlock] at h), ?_, ?_⟩
    · exact Below.mono hx1 (Nat.le_of_eq hbx.out) |> fun h => h
    · have := hG1.lt.1; omega
  case round =>
    obtain ⟨k, q, g, hk, rfl, hq, hoa, hH, hgv, hE, hbw⟩ := hrel
    have hxE : Ext w wr := Below.trans hx0 (Below.mono hE (Nat.le_trans hx0.size hb0))
    obtain ⟨Aa, ca, rfl, hqc, hcm, hra, -⟩ := own_form hoa
    have hqb : q ≤ 1048576 := by rw [hq.out]; exact hend k
    by_cases hlt : k < n
    · have hv : k < vs.length := by rw [ha.len]; omega
      obtain ⟨B1, m1, d1, hb1, hq1, hmd, _, hx1', _⟩ := ha.get k hv (by omega)
      obtain ⟨ad, rfl, hc⟩ := hr.at_ hv
      rw [hb1] at hc
      have hcw := hc
      replace hc := hxE.cell hc
      have hm1 : m1 ≤ 1048576 := by rw [← hq1]; exact hsmall _ (List.getElem_mem _)
      have hFs := Lib.hid (flat_succ (R := R) (k := k) (by omega))
      have he1 := hend (k + 1)
      have hq2 : Hid (q + m1 = (R.take (k + 1)).flatten.length) := Lib.hid (by rw [hFs.out, List.length_append, hq1, hq.out])
      have hqlen : (R.take k).flatten.length = q := hq.out.symm
      have hqm2 : q + m1 ≤ 1048576 := by rw [hq2.out]; exact he1
      generalize hrk : R[k] = rk at *
      clear hrk hb1
      obtain ⟨F, hF⟩ : ∃ F, F = (R.take k).flatten := ⟨_, rfl⟩
      obtain ⟨F2, hF2⟩ : ∃ F2, F2 = (R.take (k + 1)).flatten := ⟨_, rfl⟩
      rw [← hF] at hoa hH hqlen hFs
      rw [← hF2] at hFs
      have hF2x := Lib.hid hF2
      have hkn : k + 1 ≤ n := hlt
      have hkI : (k : Int) < (n : Int) := by omega
      have hmeas : n - (k + 1) < n - k := by omega
      have hHl := hH.lt
      have hF2l : F2.length = q + m1 := by rw [hFs.out, List.length_append, hqlen, hq1]
      have hbW : w.heap.size ≤ b := Nat.le_trans hx0.size hb0
      obtain ⟨D, hD⟩ : ∃ D, D = hash32 F2 := ⟨_, rfl⟩
      have lD : D.length = 32 := by rw [hD]; exact outAt_len32 F2
      have hDx := Lib.hid hD
      clear hF hF2 hra he1 hq hD
      go_upto_region 11 with (at_builtin; refine wpList_appb0 rfl (.tmp 26) (.tmp 30) 22 5 rfl u8rowH32 rfl B1 m1 d1 rk rfl hq1 (hx1'.ext hxE) (by omega) ?_; intro A2 c2 w2 ho2 hc2 hm2 hr2 hx2)
      have hH2 := hH.keep (Keep.of_ext (bs := []) hx2) (by simp) (by simp)
      have hoa2 := own_ext hoa hx2
      have hlw2 := hx2.size
      have hxE2 : Ext w w2 := hxE.trans hx2
      have hE2 : Below b w0 w2 := hE.trans (Below.mono hx2 hbw)
      go_upto_region 12 with (go_at_call 13; with_reducible refine (write_own b b false F g A2 m1 c2 rk w2 hH2 hq1 hr2 (by omega) (by omega)).mono ?_; rintro e w3 ⟨rfl, g3, hH3, hg3, hK3⟩)
      have hxE3 : Ext w w3 := Below.trans hxE2 (hK3.below (fun x hx => by
        simp only [List.mem_cons, Option.mem_toList] at hx
        rcases hx with e | e
        · omega
        · have := (hHl.2 x e).1; omega) hxE2.size)
      have hc3 := hxE3.cell hcw
      have hE3 : Below b w0 w3 := hE2.trans (hK3.below (fun x hx => by
        simp only [List.mem_cons, Option.mem_toList] at hx
        rcases hx with e | e
        · omega
        · exact (hHl.2 x e).1) (by omega))
      have hgw : ∀ x, g = some x → x < wr.heap.size := fun x hx => (hHl.2 x hx).2.1
      have ho2lt := own_lt ho2
      have hoalt := own_lt hoa
      have ho3 := own_keep32 ho2 hK3 (fun x hx hmem => by
        simp only [List.mem_cons, Option.mem_toList] at hmem
        have h1 := ho2lt x hx
        rcases hmem with e | e
        · have := hHl.1; omega
        · have := hgw x e; omega)
      have hne_b_all : (Value.slice Aa q ca).ownBlock ≠ some b := fun e => hH.ne_own hoa e
      have hoa3 := own_keep32 hoa2 hK3 (fun x hx hmem => by
        simp only [List.mem_cons, Option.mem_toList] at hmem
        rcases hmem with e | e
        · subst e; exact hne_b_all hx
        · exact hgv.out x e hx)
      have hs3 := hK3.size
      rw [← hFs.out] at hH3
      have hH3l := hH3.lt
      go_upto_region 13 with (at_builtin; refine wpList_appbo rfl (.tmp 35) (.tmp 39) 22 5 rfl u8rowH32 b _ q F rfl hoa3 B1 m1 d1 rk rfl hq1 (hx1'.ext hxE3) (by omega) (by omega) ?_; intro A4 c4 w4 hoa4 hc4 hm4 hob4 hg4)
      rw [← hFs.out] at hoa4
      have hK4 : Keep (Value.slice Aa q ca).ownBlock.toList w3 w4 := Keep.grown hg4 (fun k e => by
        have e' : (Value.slice Aa q ca).ownBlock = some k := e
        rw [e']; simp)
      have hxE4 : Ext w w4 := Below.trans hxE3 (hK4.below (fun x hx => by
        have := hoalt x (by simpa using hx)
        omega) hxE3.size)
      have hE4 : Below b w0 w4 := hE3.trans (hK4.below (fun x hx => (hoalt x (by simpa using hx)).1) (by omega))
      have hg3o : ∀ x, g3 = some x → (Value.slice Aa q ca).ownBlock ≠ some x := fun x hx e => by
        rcases hg3 with h | h
        · exact hgv.out x (h.symm.trans hx) e
        · rw [h] at hx
          injection hx with hx
          have := hoalt x e
          omega
      have hH4 := hH3.keep hK4 (by simpa using hne_b_all) (fun x hx hm => hg3o x hx (by simpa using hm))
      have ho4 := own_keep32 ho3 hK4 (fun x hx hm => by
        have h1 := ho2lt x hx
        have h2 := hoalt x (by simpa using hm)
        omega)
      have hs4 := hK4.size
      have hgv4 : Hid (∀ x, g3 = some x → (Value.slice A4 (q + m1) c4).ownBlock ≠ some x) := Lib.hid (fun x hx e => by
        rcases hob4 with h | h
        · exact hg3o x hx (h.symm.trans e)
        · have e2 := h.symm.trans e
          injection e2 with e2
          have := (hH3l.2 x hx).2.1
          omega)
      have hao4 : ∀ x, (Value.slice A4 (q + m1) c4).ownBlock = some x → (Value.slice A2 m1 c2).ownBlock ≠ some x := fun x hx e => by
        have h1 := ho2lt x e
        rcases hob4 with h | h
        · have := hoalt x (h.symm.trans hx); omega
        · have e2 := h.symm.trans hx
          injection e2 with e2
          omega
      have hgo4 : ∀ x, g3 = some x → (Value.slice A2 m1 c2).ownBlock ≠ some x := fun x hx e => by
        have h1 := ho2lt x e
        rcases hg3 with h | h
        · have := hgw x (h.symm.trans hx); omega
        · rw [h] at hx
          injection hx with hx
          omega
      have hne_b_own : (Value.slice A2 m1 c2).ownBlock ≠ some b := fun e => by
        have := ho2lt b e
        have := hHl.1
        omega
      clear hob4 hg4 hg3 hK3 hK4 ho2 ho3 hoa hoa2 hoa3 hH hH2 hH3 hFs hgv
      obtain ⟨wo, hwo⟩ : ∃ wo : World, wo = wr := ⟨_, rfl⟩
      subst hwo
      go_upto_region 14 with fail
      go_loopw [10] (fun v10 wl => ∃ (i : Nat) (cs : List Value), i ≤ m1 ∧ v10 = .int .i64 i ∧ wl.ownsRow wo.heap.size 5 1 (.slice A2 m1 c2) m1 cs ∧ Keep (Value.slice A2 m1 c2).ownBlock.toList w4 wl) (fun v10 _ => m1 - (intOf v10).toNat)
      case atStart => exact ⟨0, _, Nat.zero_le _, rfl, ho4, Keep.refl _ _⟩
      case round =>
        obtain ⟨i, cs, hi, rfl, hol, hKl⟩ := hrel
        by_cases him : i < m1
        · have himI : (i : Int) < (m1 : Int) := by omega
          obtain ⟨g5, sp, hv5, hg5, hm5, hR5, hl5⟩ := own_row hol (by omega)
          injection hv5 with hA5 _ hc5
          subst hA5
          subst hc5
          have him5 : i < (cs ++ sp).length := by rw [List.length_append]; omega
          have c5 : wr.cell? ⟨g5, i, none⟩ = some ((cs ++ sp)[i]'him5) := hR5.cell him5
          have f5 := hR5.fro i
          have hR6 := hR5.set i (.int .u8 7)
          have hcs : (cs ++ sp).set i (.int .u8 7) = cs.set i (.int .u8 7) ++ sp := List.set_append_left _ _ (by omega)
          rw [hcs] at hR6
          have ho6 := row_own hR6 hg5 (by rw [List.length_set]; exact hl5) hm5
          have hK6 : Keep (Value.slice (some ⟨g5, 0, none⟩) m1 (m1 + sp.length)).ownBlock.toList w4 (wr.setCell ⟨g5, i, none⟩ (.int .u8 7)) := hKl.trans (Keep.setCell wr ⟨g5, i, none⟩ _) (fun x hx => .inl (by simpa [Value.ownBlock] using hx))
          have hm6 : m1 - (i + 1) < m1 - i := by omega
          generalize (cs ++ sp)[i]'him5 = u5 at *
          clear hcs hR6
          go_wp2
          exact ⟨⟨i + 1, _, him, by go_num, ho6, hK6⟩, by simpa [intOf] using hm6⟩
        · obtain rfl : i = m1 := by omega
          have hxE5 : Ext w wr := Below.trans hxE4 (hKl.below (fun x hx => by
            have := ho2lt x (by simpa using hx)
            omega) hxE4.size)
          have hE5 : Below b w0 wr := hE4.trans (hKl.below (fun x hx => by
            have := ho2lt x (by simpa using hx)
            omega) (by omega))
          have hH5 := hH4.keep hKl (by simpa using hne_b_own) (fun x hx hm => hgo4 x hx (by simpa using hm))
          have hoa5 := own_keep32 hoa4 hKl (fun x hx hm => hao4 x hx (by simpa using hm))
          obtain ⟨A5, c5, he5, hqc5, hcm5, hra5, -⟩ := own_form hoa5
          injection he5 with hA5 _ hc5
          subst hA5
          subst hc5
          have kS := fun hTT => sumn_at b b F2 wr hH5.hs (by omega) hTT
          have kR := fun w' h1 => ref256_any A4 (q + i) c4 F2 w' hF2l hqc5 h1 (by omega)
          have kR2 := fun w' h1 => ref512_any A4 (q + i) c4 F2 w' hF2l hqc5 h1 (by omega)
          rw [← hDx.out] at kS kR
          obtain ⟨w5, hw5⟩ : ∃ w5 : World, w5 = wr := ⟨_, rfl⟩
          subst hw5
          go_upto_region 18 with (go_at_call 14; with_reducible refine (kS (hT.ext hxE5)).mono ?_; rintro e w6 ⟨m, rfl, hRm, hx6, hmge0⟩)
          have hrm := rowrd32 hRm
          go_upto_region 24 with (first
            | (go_at_call 10; (with_reducible refine (kR w6 (hra5.ext hx6)).mono ?_); rintro e w7 ⟨v7, rfl, ⟨B7, n7, c7, rfl, hl7, hc7, hr7⟩, hx7⟩)
            | (go_at_call 9; with_reducible refine (same_true D _ 32 32 B7 n7 c7 w7 lD (hrm.ext hx7) hl7 hr7 (by decide)).mono ?_; rintro e w9 ⟨rfl, hx9⟩))
          have hx59 : Ext w5 w9 := hx6.trans (hx7.trans hx9)
          have hR9 := hRm.ext (hx7.trans hx9)
          have hoa9 := own_ext hoa5 hx59
          have hH9 := hH5.keep (Keep.of_ext (bs := []) hx59) (by simp) (by simp)
          have hE9 : Below b w0 w9 := hE5.trans (Below.mono hx59 (by have := hKl.size; omega))
          have hmb := hH9.ne_row hR9 (by decide)
          have hmg := hH9.ne_row2 hR9 (by decide)
          have hma : ∀ x, (Value.slice A4 (q + i) c4).ownBlock = some x → x ≠ m := fun x hx e => own_ty_ne hoa9 ⟨_, _, hR9⟩ (by decide) (by rw [hx, e])
          have hmB : b ≤ m := Nat.le_trans (by have := hH5.lt.1; omega) hmge0
          go_upto_region 25 with fail
          go_loopw [14] (fun v14 wl => ∃ (j : Nat) (cs : List Value), j ≤ 32 ∧ v14 = .int .i64 j ∧ cs.length = 32 ∧ Row wl m 24 cs ∧ Keep [m] w9 wl) (fun v14 _ => 32 - (intOf v14).toNat)
          case atStart => exact ⟨0, _, Nat.zero_le _, rfl, by rw [List.length_map]; exact lD, hR9, Keep.refl _ _⟩
          case round =>
            obtain ⟨j, cs, hj, rfl, hcl, hRl, hKm⟩ := hrel
            by_cases hjm : j < 32
            · have hjI : (j : Int) < 32 := by omega
              have hj5 : j < cs.length := by omega
              have c8 : wr.cell? ⟨m, j, none⟩ = some (cs[j]'hj5) := hRl.cell hj5
              have f8 := hRl.fro j
              have hR10 := hRl.set j (.int .u8 9)
              have hK10 : Keep [m] w9 (wr.setCell ⟨m, j, none⟩ (.int .u8 9)) := hKm.same (Keep.setCell wr ⟨m, j, none⟩ _)
              have hl10 : (cs.set j (.int .u8 9)).length = 32 := by rw [List.length_set]; exact hcl
              generalize cs[j]'hj5 = u8 at *
              go_wp2
              exact ⟨⟨j + 1, _, hjm, by go_num, hl10, hR10, hK10⟩, by simp [intOf]; omega⟩
            · obtain rfl : j = 32 := by omega
              have hE10 : Below b w0 wr := hE9.trans (hKm.below (fun x hx => by simp at hx; omega) (by have := hE9.size; have := hH9.lt.1; omega))
              have hH10 := hH9.keep hKm (by simpa using fun e => hmb e.symm) (fun x hx hm => hmg x hx (by simpa using hm))
              have hoa10 := own_keep32 hoa9 hKm (fun x hx hm => hma x hx (by simpa using hm))
              rw [hF2x.out] at hH10 hoa10
              have hb10 : b ≤ wr.heap.size := by have := hH10.lt.1; omega
              go_wp2
              exact ⟨⟨k + 1, q + i, g3, hkn, by go_num, hq2, hoa10, hH10, hgv4, hE10, hb10⟩, by simpa [intOf] using hmeas⟩
    · obtain rfl : k = n := by omega
      go_wp2
      go_ret
      exact ⟨rfl, hxE⟩

set_option maxRecDepth 20000 in
set_option maxHeartbeats 16000000 in
theorem pieces_64 (A : Option Addr) (n cap : Nat) (R : List (List UInt8)) (w : World) (hT : Tabs w) (hB : ArgBB w A n cap R) (hm : n + (R.map List.length).sum ≤ 1048576) :
    Calls Tryd.prog 4 #[.slice A n cap, .bool true] w fun e w' => e = .returned (.bool true) ∧ Ext w w' := by
  have hs := shown_any w hT
  obtain ⟨hl, hle, hmax, vs, hr, ha⟩ := hB
  have hend : ∀ k, (R.take k).flatten.length ≤ 1048576 := fun k => by
    have := flat_le R k
    omega
  have hsmall : ∀ r ∈ R, r.length ≤ 1048576 := fun r hr => by
    have : r.length ≤ (R.map List.length).sum := mem_le_sum (List.mem_map_of_mem hr)
    omega
  have hn20 : n ≤ 1048576 := by omega
  clear hm
  go_enter Tryd.func4, Tryd.ntmps4
  go_wp2_with (first
    | (go_at_call 6; with_reducible refine hs.mono ?_; rintro e w0 ⟨rfl, hx0⟩)
    | (go_at_call 12; with_reducible refine (new_any true w0).mono ?_; rintro e w1 ⟨rfl, hH1, hx1⟩))
  obtain ⟨g1, hG1⟩ := HsK.of hH1
  obtain ⟨b, hb⟩ : ∃ b, b = w0.heap.size := ⟨_, rfl⟩
  rw [← hb] at hG1 ⊢
  have hbx := Lib.hid hb
  clear hb hH1
  have hb0 : w0.heap.size ≤ b := Nat.le_of_eq hbx.out.symm
  have hxw1 : Ext w w1 := hx0.trans hx1
  go_loopw [7, 8] (fun va vi wr => ∃ (k q : Nat) (g : Option Nat), k ≤ n ∧ vi = .int .i64 k ∧ Hid (q = (R.take k).flatten.length) ∧ wr.ownsRow b 5 1 va q ((R.take k).flatten.map bv) ∧ HsK wr b b true (R.take k).flatten g ∧ Hid (∀ x, g = some x → va.ownBlock ≠ some x) ∧ Below b w0 wr ∧ b ≤ wr.heap.size) (fun _ vi _ => n - (intOf vi).toNat)
  case atStart =>
    refine ⟨0, 0, g1, Nat.zero_le _, rfl, Lib.hid rfl, World.ownsRow_nil _ _ _ _, hG1, Lib.hid (fun x _ h => by simp [Value.ownBlock] at h), ?_, ?_⟩
    · exact Below.mono hx1 (Nat.le_of_eq hbx.out) |> fun h => h
    · have := hG1.lt.1; omega
  case round =>
    obtain ⟨k, q, g, hk, rfl, hq, hoa, hH, hgv, hE, hbw⟩ := hrel
    have hxE : Ext w wr := Below.trans hx0 (Below.mono hE (Nat.le_trans hx0.size hb0))
    obtain ⟨Aa, ca, rfl, hqc, hcm, hra, -⟩ := own_form hoa
    have hqb : q ≤ 1048576 := by rw [hq.out]; exact hend k
    by_cases hlt : k < n
    · have hv : k < vs.length := by rw [ha.len]; omega
      obtain ⟨B1, m1, d1, hb1, hq1, hmd, _, hx1', _⟩ := ha.get k hv (by omega)
      obtain ⟨ad, rfl, hc⟩ := hr.at_ hv
      rw [hb1] at hc
      have hcw := hc
      replace hc := hxE.cell hc
      have hm1 : m1 ≤ 1048576 := by rw [← hq1]; exact hsmall _ (List.getElem_mem _)
      have hFs := Lib.hid (flat_succ (R := R) (k := k) (by omega))
      have he1 := hend (k + 1)
      have hq2 : Hid (q + m1 = (R.take (k + 1)).flatten.length) := Lib.hid (by rw [hFs.out, List.length_append, hq1, hq.out])
      have hqlen : (R.take k).flatten.length = q := hq.out.symm
      have hqm2 : q + m1 ≤ 1048576 := by rw [hq2.out]; exact he1
      generalize hrk : R[k] = rk at *
      clear hrk hb1
      obtain ⟨F, hF⟩ : ∃ F, F = (R.take k).flatten := ⟨_, rfl⟩
      obtain ⟨F2, hF2⟩ : ∃ F2, F2 = (R.take (k + 1)).flatten := ⟨_, rfl⟩
      rw [← hF] at hoa hH hqlen hFs
      rw [← hF2] at hFs
      have hF2x := Lib.hid hF2
      have hkn : k + 1 ≤ n := hlt
      have hkI : (k : Int) < (n : Int) := by omega
      have hmeas : n - (k + 1) < n - k := by omega
      have hHl := hH.lt
      have hF2l : F2.length = q + m1 := by rw [hFs.out, List.length_append, hqlen, hq1]
      have hbW : w.heap.size ≤ b := Nat.le_trans hx0.size hb0
      obtain ⟨D, hD⟩ : ∃ D, D = hash64 F2 := ⟨_, rfl⟩
      have lD : D.length = 64 := by rw [hD]; exact outAt_len64 F2
      have hDx := Lib.hid hD
      clear hF hF2 hra he1 hq hD
      go_upto_region 11 with (at_builtin; refine wpList_appb0 rfl (.tmp 26) (.tmp 30) 22 5 rfl u8rowH32 rfl B1 m1 d1 rk rfl hq1 (hx1'.ext hxE) (by omega) ?_; intro A2 c2 w2 ho2 hc2 hm2 hr2 hx2)
      have hH2 := hH.keep (Keep.of_ext (bs := []) hx2) (by simp) (by simp)
      have hoa2 := own_ext hoa hx2
      have hlw2 := hx2.size
      have hxE2 : Ext w w2 := hxE.trans hx2
      have hE2 : Below b w0 w2 := hE.trans (Below.mono hx2 hbw)
      go_upto_region 12 with (go_at_call 13; with_reducible refine (write_own b b true F g A2 m1 c2 rk w2 hH2 hq1 hr2 (by omega) (by omega)).mono ?_; rintro e w3 ⟨rfl, g3, hH3, hg3, hK3⟩)
      have hxE3 : Ext w w3 := Below.trans hxE2 (hK3.below (fun x hx => by
        simp only [List.mem_cons, Option.mem_toList] at hx
        rcases hx with e | e
        · omega
        · have := (hHl.2 x e).1; omega) hxE2.size)
      have hc3 := hxE3.cell hcw
      have hE3 : Below b w0 w3 := hE2.trans (hK3.below (fun x hx => by
        simp only [List.mem_cons, Option.mem_toList] at hx
        rcases hx with e | e
        · omega
        · exact (hHl.2 x e).1) (by omega))
      have hgw : ∀ x, g = some x → x < wr.heap.size := fun x hx => (hHl.2 x hx).2.1
      have ho2lt := own_lt ho2
      have hoalt := own_lt hoa
      have ho3 := own_keep32 ho2 hK3 (fun x hx hmem => by
        simp only [List.mem_cons, Option.mem_toList] at hmem
        have h1 := ho2lt x hx
        rcases hmem with e | e
        · have := hHl.1; omega
        · have := hgw x e; omega)
      have hne_b_all : (Value.slice Aa q ca).ownBlock ≠ some b := fun e => hH.ne_own hoa e
      have hoa3 := own_keep32 hoa2 hK3 (fun x hx hmem => by
        simp only [List.mem_cons, Option.mem_toList] at hmem
        rcases hmem with e | e
        · subst e; exact hne_b_all hx
        · exact hgv.out x e hx)
      have hs3 := hK3.size
      rw [← hFs.out] at hH3
      have hH3l := hH3.lt
      go_upto_region 13 with (at_builtin; refine wpList_appbo rfl (.tmp 35) (.tmp 39) 22 5 rfl u8rowH32 b _ q F rfl hoa3 B1 m1 d1 rk rfl hq1 (hx1'.ext hxE3) (by omega) (by omega) ?_; intro A4 c4 w4 hoa4 hc4 hm4 hob4 hg4)
      rw [← hFs.out] at hoa4
      have hK4 : Keep (Value.slice Aa q ca).ownBlock.toList w3 w4 := Keep.grown hg4 (fun k e => by
        have e' : (Value.slice Aa q ca).ownBlock = some k := e
        rw [e']; simp)
      have hxE4 : Ext w w4 := Below.trans hxE3 (hK4.below (fun x hx => by
        have := hoalt x (by simpa using hx)
        omega) hxE3.size)
      have hE4 : Below b w0 w4 := hE3.trans (hK4.below (fun x hx => (hoalt x (by simpa using hx)).1) (by omega))
      have hg3o : ∀ x, g3 = some x → (Value.slice Aa q ca).ownBlock ≠ some x := fun x hx e => by
        rcases hg3 with h | h
        · exact hgv.out x (h.symm.trans hx) e
        · rw [h] at hx
          injection hx with hx
          have := hoalt x e
          omega
      have hH4 := hH3.keep hK4 (by simpa using hne_b_all) (fun x hx hm => hg3o x hx (by simpa using hm))
      have ho4 := own_keep32 ho3 hK4 (fun x hx hm => by
        have h1 := ho2lt x hx
        have h2 := hoalt x (by simpa using hm)
        omega)
      have hs4 := hK4.size
      have hgv4 : Hid (∀ x, g3 = some x → (Value.slice A4 (q + m1) c4).ownBlock ≠ some x) := Lib.hid (fun x hx e => by
        rcases hob4 with h | h
        · exact hg3o x hx (h.symm.trans e)
        · have e2 := h.symm.trans e
          injection e2 with e2
          have := (hH3l.2 x hx).2.1
          omega)
      have hao4 : ∀ x, (Value.slice A4 (q + m1) c4).ownBlock = some x → (Value.slice A2 m1 c2).ownBlock ≠ some x := fun x hx e => by
        have h1 := ho2lt x e
        rcases hob4 with h | h
        · have := hoalt x (h.symm.trans hx); omega
        · have e2 := h.symm.trans hx
          injection e2 with e2
          omega
      have hgo4 : ∀ x, g3 = some x → (Value.slice A2 m1 c2).ownBlock ≠ some x := fun x hx e => by
        have h1 := ho2lt x e
        rcases hg3 with h | h
        · have := hgw x (h.symm.trans hx); omega
        · rw [h] at hx
          injection hx with hx
          omega
      have hne_b_own : (Value.slice A2 m1 c2).ownBlock ≠ some b := fun e => by
        have := ho2lt b e
        have := hHl.1
        omega
      clear hob4 hg4 hg3 hK3 hK4 ho2 ho3 hoa hoa2 hoa3 hH hH2 hH3 hFs hgv
      obtain ⟨wo, hwo⟩ : ∃ wo : World, wo = wr := ⟨_, rfl⟩
      subst hwo
      go_upto_region 14 with fail
      go_loopw [10] (fun v10 wl => ∃ (i : Nat) (cs : List Value), i ≤ m1 ∧ v10 = .int .i64 i ∧ wl.ownsRow wo.heap.size 5 1 (.slice A2 m1 c2) m1 cs ∧ Keep (Value.slice A2 m1 c2).ownBlock.toList w4 wl) (fun v10 _ => m1 - (intOf v10).toNat)
      case atStart => exact ⟨0, _, Nat.zero_le _, rfl, ho4, Keep.refl _ _⟩
      case round =>
        obtain ⟨i, cs, hi, rfl, hol, hKl⟩ := hrel
        by_cases him : i < m1
        · have himI : (i : Int) < (m1 : Int) := by omega
          obtain ⟨g5, sp, hv5, hg5, hm5, hR5, hl5⟩ := own_row hol (by omega)
          injection hv5 with hA5 _ hc5
          subst hA5
          subst hc5
          have him5 : i < (cs ++ sp).length := by rw [List.length_append]; omega
          have c5 : wr.cell? ⟨g5, i, none⟩ = some ((cs ++ sp)[i]'him5) := hR5.cell him5
          have f5 := hR5.fro i
          have hR6 := hR5.set i (.int .u8 7)
          have hcs : (cs ++ sp).set i (.int .u8 7) = cs.set i (.int .u8 7) ++ sp := List.set_append_left _ _ (by omega)
          rw [hcs] at hR6
          have ho6 := row_own hR6 hg5 (by rw [List.length_set]; exact hl5) hm5
          have hK6 : Keep (Value.slice (some ⟨g5, 0, none⟩) m1 (m1 + sp.length)).ownBlock.toList w4 (wr.setCell ⟨g5, i, none⟩ (.int .u8 7)) := hKl.trans (Keep.setCell wr ⟨g5, i, none⟩ _) (fun x hx => .inl (by simpa [Value.ownBlock] using hx))
          have hm6 : m1 - (i + 1) < m1 - i := by omega
          generalize (cs ++ sp)[i]'him5 = u5 at *
          clear hcs hR6
          go_wp2
          exact ⟨⟨i + 1, _, him, by go_num, ho6, hK6⟩, by simpa [intOf] using hm6⟩
        · obtain rfl : i = m1 := by omega
          have hxE5 : Ext w wr := Below.trans hxE4 (hKl.below (fun x hx => by
            have := ho2lt x (by simpa using hx)
            omega) hxE4.size)
          have hE5 : Below b w0 wr := hE4.trans (hKl.below (fun x hx => by
            have := ho2lt x (by simpa using hx)
            omega) (by omega))
          have hH5 := hH4.keep hKl (by simpa using hne_b_own) (fun x hx hm => hgo4 x hx (by simpa using hm))
          have hoa5 := own_keep32 hoa4 hKl (fun x hx hm => hao4 x hx (by simpa using hm))
          obtain ⟨A5, c5, he5, hqc5, hcm5, hra5, -⟩ := own_form hoa5
          injection he5 with hA5 _ hc5
          subst hA5
          subst hc5
          have kS := fun hTT => sumw_at b b F2 wr hH5.hs (by omega) hTT
          have kR := fun w' h1 => ref256_any A4 (q + i) c4 F2 w' hF2l hqc5 h1 (by omega)
          have kR2 := fun w' h1 => ref512_any A4 (q + i) c4 F2 w' hF2l hqc5 h1 (by omega)
          rw [← hDx.out] at kS kR2
          obtain ⟨w5, hw5⟩ : ∃ w5 : World, w5 = wr := ⟨_, rfl⟩
          subst hw5
          go_upto_region 18 with (go_at_call 14; with_reducible refine (kS (hT.ext hxE5)).mono ?_; rintro e w6 ⟨m, rfl, hRm, hx6, hmge0⟩)
          have hrm := rowrd64 hRm
          go_upto_region 24 with (first
            | (go_at_call 10; (with_reducible refine (kR w6 (hra5.ext hx6)).mono ?_); rintro e w7 ⟨v7, rfl, ⟨B7, n7, c7, rfl, hl7, hc7, hr7⟩, hx7⟩)
            | (go_at_call 11; (with_reducible refine (kR2 w7 ((hra5.ext hx6).ext hx7)).mono ?_); rintro e w8 ⟨v8, rfl, ⟨B8, n8, c8, rfl, hl8, hc8, hr8⟩, hx8⟩)
            | (go_at_call 9; with_reducible refine (same_true D _ 64 64 B8 n8 c8 w8 lD (hrm.ext (hx7.trans hx8)) hl8 hr8 (by decide)).mono ?_; rintro e w9 ⟨rfl, hx9⟩))
          have hx59 : Ext w5 w9 := hx6.trans (hx7.trans (hx8.trans hx9))
          have hR9 := hRm.ext (hx7.trans (hx8.trans hx9))
          have hoa9 := own_ext hoa5 hx59
          have hH9 := hH5.keep (Keep.of_ext (bs := []) hx59) (by simp) (by simp)
          have hE9 : Below b w0 w9 := hE5.trans (Below.mono hx59 (by have := hKl.size; omega))
          have hmb := hH9.ne_row hR9 (by decide)
          have hmg := hH9.ne_row2 hR9 (by decide)
          have hma : ∀ x, (Value.slice A4 (q + i) c4).ownBlock = some x → x ≠ m := fun x hx e => own_ty_ne hoa9 ⟨_, _, hR9⟩ (by decide) (by rw [hx, e])
          have hmB : b ≤ m := Nat.le_trans (by have := hH5.lt.1; omega) hmge0
          go_upto_region 25 with fail
          go_loopw [14] (fun v14 wl => ∃ (j : Nat) (cs : List Value), j ≤ 64 ∧ v14 = .int .i64 j ∧ cs.length = 64 ∧ Row wl m 26 cs ∧ Keep [m] w9 wl) (fun v14 _ => 64 - (intOf v14).toNat)
          case atStart => exact ⟨0, _, Nat.zero_le _, rfl, by rw [List.length_map]; exact lD, hR9, Keep.refl _ _⟩
          case round =>
            obtain ⟨j, cs, hj, rfl, hcl, hRl, hKm⟩ := hrel
            by_cases hjm : j < 64
            · have hjI : (j : Int) < 64 := by omega
              have hj5 : j < cs.length := by omega
              have c8 : wr.cell? ⟨m, j, none⟩ = some (cs[j]'hj5) := hRl.cell hj5
              have f8 := hRl.fro j
              have hR10 := hRl.set j (.int .u8 9)
              have hK10 : Keep [m] w9 (wr.setCell ⟨m, j, none⟩ (.int .u8 9)) := hKm.same (Keep.setCell wr ⟨m, j, none⟩ _)
              have hl10 : (cs.set j (.int .u8 9)).length = 64 := by rw [List.length_set]; exact hcl
              generalize cs[j]'hj5 = u8 at *
              go_wp2
              exact ⟨⟨j + 1, _, hjm, by go_num, hl10, hR10, hK10⟩, by simp [intOf]; omega⟩
            · obtain rfl : j = 64 := by omega
              have hE10 : Below b w0 wr := hE9.trans (hKm.below (fun x hx => by simp at hx; omega) (by have := hE9.size; have := hH9.lt.1; omega))
              have hH10 := hH9.keep hKm (by simpa using fun e => hmb e.symm) (fun x hx hm => hmg x hx (by simpa using hm))
              have hoa10 := own_keep32 hoa9 hKm (fun x hx hm => hma x hx (by simpa using hm))
              rw [hF2x.out] at hH10 hoa10
              have hb10 : b ≤ wr.heap.size := by have := hH10.lt.1; omega
              go_wp2
              exact ⟨⟨k + 1, q + i, g3, hkn, by go_num, hq2, hoa10, hH10, hgv4, hE10, hb10⟩, by simpa [intOf] using hmeas⟩
    · obtain rfl : k = n := by omega
      go_wp2
      go_ret
      exact ⟨rfl, hxE⟩

end Go.Proofs.YtnlphndfnnmdaaaDoor
