/-
  Walks of the reference's Scan and Same.
-/
import Derived.Test.YtjnbbfhoegeppaaDoorWalC
set_option linter.unusedSimpArgs false
set_option linter.unusedVariables false
namespace Go.Proofs.YtjnbbfhoegeppaaDoor
open Go.RowKit Go.Cv Go.Cv.Wal

set_option maxHeartbeats 400000 in
theorem same_any (A1 A2 : Option Addr) (n1 n2 c1 c2 : Nat) (vs1 vs2 : List Value) (R1 R2 : List (List UInt8)) (S1 S2 : World → Addr → Prop) (w : World) (hl1 : R1.length = n1) (hl2 : R2.length = n2)
    (hr1 : Rd w A1 vs1) (hr2 : Rd w A2 vs2) (ha1 : AllB S1 w vs1 R1) (ha2 : AllB S2 w vs2 R2) (hm1 : n1 ≤ 140737488355328) (hm2 : n2 ≤ 140737488355328) :
    Calls Tryd.prog 11 #[.slice A1 n1 c1, .slice A2 n2 c2] w fun e w' => e = .returned (.bool (decide (R1 = R2))) ∧ ∃ m, w' = w.drewN m := by
  by_cases hn : n1 = n2
  · subst hn
    go_enter Tryd.func11, Tryd.ntmps11
    go_wp2
    go_loopw [5] (fun i wr => ∃ k m : Nat, k ≤ n1 ∧ i = .int .i64 k ∧ wr = w.drewN m ∧ R1.take k = R2.take k) (fun i _ => n1 - (intOf i).toNat)
    case atStart => exact ⟨0, 0, Nat.zero_le _, rfl, rfl, rfl⟩
    case round =>
      obtain ⟨k, m, hk, rfl, rfl, he⟩ := hrel
      by_cases hlt : k < n1
      · have hv1 : k < vs1.length := by rw [ha1.len]; omega
        have hv2 : k < vs2.length := by rw [ha2.len]; omega
        obtain ⟨B1, m1, d1, hb1, hq1, _, _, hx1, _⟩ := ha1.get k hv1 (by omega)
        obtain ⟨B2, m2, d2, hb2, hq2, _, _, hx2, _⟩ := ha2.get k hv2 (by omega)
        obtain ⟨ad1, rfl, hc1⟩ := hr1.at_ hv1
        obtain ⟨ad2, rfl, hc2⟩ := hr2.at_ hv2
        rw [hb1] at hc1
        rw [hb2] at hc2
        have hcv1 : ∀ q, (convert 22 9 (.slice B1 m1 d1)).run Tryd.prog (w.drewN q) = .ok (.string ⟨(R1[k]).toArray⟩) (w.drewN q) := fun q =>
          run_convert_rd (P := Tryd.prog) (w.drewN q) 22 9 5 Tryd.underlying22 Tryd.underlying5 Tryd.underlying9 B1 m1 d1 _ hq1 (hx1.drewN q)
        have hcv2 : ∀ q, (convert 22 9 (.slice B2 m2 d2)).run Tryd.prog (w.drewN q) = .ok (.string ⟨(R2[k]).toArray⟩) (w.drewN q) := fun q =>
          run_convert_rd (P := Tryd.prog) (w.drewN q) 22 9 5 Tryd.underlying22 Tryd.underlying5 Tryd.underlying9 B2 m2 d2 _ hq2 (hx2.drewN q)
        clear hb1 hb2 hq1 hq2 hx1 hx2 ha1 ha2 hr1 hr2 hv1 hv2
        have Hl1 := Lib.hid hl1
        have Hl2 := Lib.hid hl2
        have He := Lib.hid he
        clear he
        rcases hq : (!R1[k] == R2[k]) with _ | _
        · go_wp2_with fail
          go_quiet (fail)
          go_wp2
          go_roundw
          case rel =>
            refine ⟨k + 1, _, by omega, by go_num, rfl, ?_⟩
            rw [List.take_succ_eq_append_getElem (by omega), List.take_succ_eq_append_getElem (by omega), He.out]
            have : R1[k] = R2[k] := by simpa using hq
            rw [this]
          case measure => simp [intOf]; omega
        · have HF : Hid (decide (R1 = R2) = false) := by
            show decide (R1 = R2) = false
            rw [decide_eq_false_iff_not]
            intro h
            subst h
            simp at hq
          go_wp2_with fail
          go_quiet (fail)
          go_wp2
          go_ret
          exact ⟨by rw [HF.out]; rfl, m + nq, by rw [World.drewN_drewN]⟩
      · have HT : Hid (decide (R1 = R2) = true) := by
          show decide (R1 = R2) = true
          rw [decide_eq_true_iff]
          rw [List.take_of_length_le (by omega), List.take_of_length_le (by omega)] at he
          exact he
        clear he
        go_wp2
        go_ret
        exact ⟨by rw [HT.out]; rfl, _, rfl⟩
  · have hne : ((n1 : Int) != (n2 : Int)) = true := by rw [bne_iff_ne]; omega
    have HF : Hid (decide (R1 = R2) = false) := by
      show decide (R1 = R2) = false
      rw [decide_eq_false_iff_not]
      intro h
      rw [h] at hl1
      omega
    clear hl1 hl2
    go_enter Tryd.func11, Tryd.ntmps11
    go_wp2
    go_ret
    exact ⟨by rw [HF.out]; rfl, 0, rfl⟩

/-- In the block to which A leads. -/
def InA (A : Option Addr) (_ : World) (ad : Addr) : Prop := ∃ a0, A = some a0 ∧ ad.block = a0.block
theorem InA.cut {A : Option Addr} {w : World} {l m s : Nat} : ∀ ad, cutA A l m s = some ad → InA A w ad := by
  intro ad h
  unfold cutA at h
  split at h
  · exact ⟨ad, h, rfl⟩
  · rcases A with _ | a0
    · cases h
    · simp at h
      exact ⟨a0, rfl, by rw [← h, add_block]⟩

set_option maxHeartbeats 400000 in
theorem rscan_any (A : Option Addr) (n cap : Nat) (l : List UInt8) (w : World) (hl : l.length = n) (hc : n ≤ cap) (hcm : cap ≤ maxLen) (hr : Rd w A (l.map bv)) (hm : n ≤ 35184372088832) :
    Calls Tryd.prog 10 #[.slice A n cap] w (RetScan (InA A) w l) := by
  go_enter Tryd.func10, Tryd.ntmps10
  go_wp2
  go_loopw [4, 5, 6, 7, 8, 9] (fun o u _ _ _ _ wr => ∃ (A4 : Option Addr) (c4 : Nat) (vs : List Value) (R : List (List UInt8)) (k : Nat), k ≤ n ∧ u = .int .i64 k ∧ o = .slice A4 R.length c4 ∧ Ext w wr ∧
    wr.ownsRow w.heap.size 22 1 (.slice A4 R.length c4) R.length vs ∧ AllB (InA A) wr vs R ∧ (R.map frame).flatten = l.take k ∧ (∀ r ∈ R, r.length ≤ 2097152) ∧ 8 * R.length ≤ k) (fun _ u _ _ _ _ _ => n - (intOf u).toNat)
  case atStart => exact ⟨none, 0, [], [], 0, by omega, rfl, rfl, Ext.refl _, World.ownsRow_nil _ _ _ _, trivial, by simp, by simp, by simp⟩
  case round =>
    obtain ⟨A4, c4, vs, R, k, hk, rfl, rfl, hx, ho, ha, he, hs, h8⟩ := hrel
    by_cases hge : 8 ≤ n - k
    · obtain ⟨a, b, c, d, e, f, g, i, r, hd⟩ := eight (l := l.drop k) (by rw [List.length_drop]; omega)
      have hrl : r.length + 8 = n - k := by
        have := congrArg List.length hd
        rw [List.length_drop] at this
        simp only [List.length_cons] at this
        omega
      have hrl4 : Rd wr (cutA A k cap 1) (([a, b, c, d] : List UInt8).map bv) := by
        have := ((hr.ext hx).cutA_ (l := k) (m := cap) (by simp; omega)).take 4
        rw [← List.map_drop, hd] at this
        exact this
      have HD := Lib.hid hd
      clear hd
      go_wp2_with fail
      rw [show k + 4 - k = 4 from by omega]
      refine (number_any a b c d [] _ _ _ _ (by omega) hrl4).mono ?_
      rintro _ _ ⟨rfl, m, rfl⟩
      have hwq := hx
      replace hx := hx.drewN m
      replace ho : (wr.drewN m).ownsRow w.heap.size 22 1 (.slice A4 R.length c4) R.length vs := ho
      replace ha : AllB (InA A) (wr.drewN m) vs R := ha.ext ((Ext.refl wr).drewN m) (fun _ h => h)
      generalize wr.drewN m = wq at *
      clear hwq hrl4
      have hn4 := num4_lt a b c d
      have HS1 := Lib.hid (scan1_frame_eq a b c d e f g i r)
      have HS2 := Lib.hid (show (num4 a b c d > 2097152 ∨ num4 a b c d > r.length) → scan1 (a :: b :: c :: d :: e :: f :: g :: i :: r) = none from fun h => if_pos h)
      generalize num4 a b c d = sz at *
      by_cases hbig : 2097152 < sz
      · have hbig' : (2097152 : Int) < (sz : Int) := by omega
        go_wp2
        go_ret2
        exact RetScan.mk_ (by omega) hx ho ha he hs (by rw [HD.out, HS2.out (by omega)])
      · have hbig' : ¬ (2097152 : Int) < (sz : Int) := by omega
        by_cases hfit : n - k - 8 < sz
        · have hfit' : (n : Int) - (k : Int) - 8 < (sz : Int) := by omega
          go_wp2
          go_ret2
          exact RetScan.mk_ (by omega) hx ho ha he hs (by rw [HD.out, HS2.out (by omega)])
        · have hfit' : ¬ (n : Int) - (k : Int) - 8 < (sz : Int) := by omega
          replace HS1 := Lib.hid (HS1.out (by omega) (by omega))
          have hd8 : l.drop (k + 8) = r := by
            have := congrArg (List.drop 8) HD.out
            rw [List.drop_drop] at this
            simpa using this
          have hrr : Rd wq (cutA A (k + 8) cap 1) ((r.take sz).map bv) := by
            have := ((hr.ext hx).cutA_ (l := k + 8) (m := cap) (by simp; omega)).take sz
            rw [← List.map_drop, ← List.map_take, hd8] at this
            exact this
          have hrw : Rd wq (cutA A k cap 1) ((a :: b :: c :: d :: e :: f :: g :: i :: r.take sz).map bv) := by
            have := ((hr.ext hx).cutA_ (l := k) (m := cap) (by simp; omega)).take (8 + sz)
            rw [← List.map_drop, ← List.map_take, HD.out, Nat.add_comm 8 sz] at this
            exact this
          clear hd8
          have hrt := Lib.hid (show (r.take sz).length = sz by rw [List.length_take]; omega)
          go_wp2_with fail
          rw [show k + 8 + sz - (k + 8) = sz from by omega]
          refine (rframe_any _ _ _ (r.take sz) _ hrt.out hrr (by omega)).mono ?_
          rintro _ w3 ⟨A3, c3, rfl, hx3, _, _, _, hr3⟩
          replace ho := own_ext ho hx3
          replace ha : AllB (InA A) w3 vs R := ha.ext hx3 (fun _ h => h)
          replace hrr := hrr.ext hx3
          replace hrw := hrw.ext hx3
          replace hx := hx.trans hx3
          clear hx3
          have hcv1 : ∀ q, (convert 22 9 (.slice A3 (8 + sz) c3)).run Tryd.prog (w3.drewN q) = .ok (.string ⟨(frame (r.take sz)).toArray⟩) (w3.drewN q) := fun q =>
            run_convert_rd (P := Tryd.prog) (w3.drewN q) 22 9 5 Tryd.underlying22 Tryd.underlying5 Tryd.underlying9 A3 (8 + sz) c3 _ (by rw [frame_length, hrt.out]) (hr3.drewN q)
          have hcv2 : ∀ q C, (convert 22 9 (.slice (cutA A k cap 1) (k + 8 + sz - k) C)).run Tryd.prog (w3.drewN q) = .ok (.string ⟨(a :: b :: c :: d :: e :: f :: g :: i :: r.take sz).toArray⟩) (w3.drewN q) := fun q C =>
            run_convert_rd (P := Tryd.prog) (w3.drewN q) 22 9 5 Tryd.underlying22 Tryd.underlying5 Tryd.underlying9 (cutA A k cap 1) (k + 8 + sz - k) C _ (by simp only [List.length_cons]; rw [hrt.out]; omega) (hrw.drewN q)
          clear hr3 hrw
          have hi1 : (k : Int) ≤ (k : Int) + 8 + (sz : Int) := by omega
          have hi2 : (k : Int) + 8 + (sz : Int) ≤ (cap : Int) := by omega
          rcases hck : (!frame (r.take sz) == a :: b :: c :: d :: e :: f :: g :: i :: r.take sz) with _ | _
          · have HSm : Hid (scan1 (l.drop k) = some (r.take sz)) := by
              show scan1 (l.drop k) = _
              rw [HD.out, HS1.out, if_pos]
              simpa using hck
            go_wp2_with fail
            go_quiet (fail)
            clear hcv1 hcv2
            go_wp2_with (at_builtin; refine wpList_app rfl (.tmp 60) (.tmp 62) 23 22 24 rfl rowrow w.heap.size _ R.length vs rfl (own_ext (own_ext ho ((Ext.refl w3).drewN nq)) (ext_alloc _ _)) _ 1 1 [.slice (cutA A (k + 8) cap 1) sz (cap - (k + 8))] rfl rfl (rd_new_one _ _ _) (one_slice _ _ _) (by unfold maxLen; omega) (by omega) (by have := hx.size; simp; omega) ?_; intro A10 c10 w10 ho10 hc10 hm10 hr10 hE10 hg10)
            have hxa := ((Ext.refl w3).drewN nq).trans (ext_alloc (w3.drewN nq) (.cells #[.slice (cutA A (k + 8) cap 1) sz (cap - (k + 8))] 22))
            have hx10 : Ext w w10 := hE10 w (hx.trans hxa) (Nat.le_refl _)
            have hne : ∀ ad, InA A w3 ad → some ad.block ≠ (Value.slice A4 R.length c4).ownBlock := by
              rintro ad ⟨a0, rfl, hb⟩ he
              obtain ⟨ad', h1, hlt⟩ := hr.some_ (by simp; omega)
              injection h1 with h1
              subst h1
              have := (ho.lt ad.block he.symm).1
              omega
            go_roundw
            case rel =>
              obtain ⟨t1, t2, t3⟩ := take_frame (by omega) HSm.out
              rw [hrt.out] at t1 t2 t3
              refine ⟨A10, c10, vs ++ [.slice (cutA A (k + 8) cap 1) sz (cap - (k + 8))], R ++ [r.take sz], k + (8 + sz), by omega, by go_num, by rw [List.length_append]; rfl, hx10, by rw [List.length_append]; exact ho10, ?_, ?_, ?_, by simp; omega⟩
              · exact AllB.snoc ⟨_, sz, _, rfl, hrt.out, by omega, by omega, (hrr.ext hxa).grown hg10 fun ad e => hne ad (InA.cut (w := w3) ad e), fun ad e => InA.cut (w := w3) ad e⟩ ((ha.ext hxa fun _ h => h).imp_ (fun _ _ h hf => h.grown hg10 fun ad e => hne ad (hf ad e)) fun _ h => h)
              · rw [List.map_append, List.flatten_append, he, t1]; simp
              · intro x hx
                rcases List.mem_append.1 hx with h | h
                · exact hs x h
                · rw [List.mem_singleton.1 h, hrt.out]; exact t3
            case measure => simp [intOf]; omega
          · have HSm : Hid (scan1 (l.drop k) = none) := by
              show scan1 (l.drop k) = _
              rw [HD.out, HS1.out, if_neg]
              simpa using hck
            go_wp2_with fail
            go_quiet (fail)
            go_wp2
            go_ret2
            exact RetScan.mk_ (by omega) (hx.drewN nq) ho (ha.ext ((Ext.refl w3).drewN nq) fun _ h => h) he hs HSm.out
    · go_wp2
      go_ret2
      exact RetScan.mk_ (by omega) hx ho ha he hs (scan1_short (by rw [List.length_drop]; omega))
end Go.Proofs.YtjnbbfhoegeppaaDoor
