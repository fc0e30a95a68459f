/-
  Walks of the answer's disk: the power comes.
-/
import Derived.Test.YtkgnaabmcboffaaDoorDvF
set_option linter.unusedSimpArgs false
set_option linter.unusedVariables false
namespace Go.Proofs.YtkgnaabmcboffaaDoor
open Go.RowKit Go.Cv Go.Cv.Dk
def cutE (keep : Int) (e : EF) : EF := ⟨cutf keep e.f, e.A, e.c⟩
def Lk (keep : Int) (L : List EF) (k : Nat) : List EF := (L.take k).map (cutE keep) ++ L.drop k
theorem lk_at {keep : Int} {L : List EF} {k : Nat} (h : k < L.length) : ∃ l1 e l2, Lk keep L k = l1 ++ e :: l2 ∧ Lk keep L (k + 1) = l1 ++ cutE keep e :: l2 ∧ l1.length = k := by
  refine ⟨(L.take k).map (cutE keep), L[k], L.drop (k + 1), ?_, ?_, by rw [List.length_map, List.length_take]; omega⟩
  · unfold Lk
    rw [List.drop_eq_getElem_cons h]
  · unfold Lk
    rw [List.take_succ_eq_append_getElem h, List.map_append]
    simp
theorem lk_len (keep : Int) (L : List EF) (k : Nat) : (Lk keep L k).length = L.length := by
  unfold Lk
  rw [List.length_append, List.length_map, List.length_take, List.length_drop]
  omega
theorem lk_end (keep : Int) (L : List EF) : (Lk keep L L.length).map EF.f = (L.map EF.f).map (cutf keep) := by
  unfold Lk
  rw [List.take_length, List.drop_length, List.append_nil, List.map_map, List.map_map]
  rfl
set_option maxHeartbeats 6400000 in
theorem rpower_any (B r : Nat) (S : DS) (T : Option Addr) (c : Nat) (L : List EF) (keep : Int) (w : World) (h : RAt w B r S T c L) (hL : L.length ≤ 1099511627776) (hkp : -9223372036854775808 ≤ keep ∧ keep ≤ 9223372036854775807) :
    Calls Tryd.prog 33 #[.pointer (some ⟨r, 0, none⟩), .int .i64 keep] w fun e w' => e = .returned (.tuple #[]) ∧ RN w B r (rfoot r T L) (Dk.pow S keep) w' := by
  refine calls_hid fun G hG => ?_
  have hok := h.ok
  obtain ⟨q0, hq0, hr⟩ := h.row
  have c2 : w.cell? ⟨r, 2, none⟩ = some (.bool S.off) := hr.cell (i := 2) (by simp)
  have c3 : w.cell? ⟨r, 3, none⟩ = some (.bool (decide (0 ≤ S.bud))) := hr.cell (i := 3) (by simp)
  have f3 := hr.fro 3
  have r1 := hr.set 3 (.bool false)
  have d2 : (w.setCell ⟨r, 3, none⟩ (.bool false)).cell? ⟨r, 2, none⟩ = some (.bool S.off) := r1.cell (i := 2) (by simp)
  have g2 := r1.fro 2
  have hk1 := Keep.setCell w ⟨r, 3, none⟩ (.bool false)
  have hob : ∀ o, DS.Ok { S with bud := -1, off := o } := fun o => ⟨hok.r0, hok.r1, by show (-1 : Int) ≤ -1; omega, by show (-1 : Int) ≤ 9223372036854775807; omega, hok.u, hok.nm, hok.sy, hok.ris⟩
  have hneg : decide ((0 : Int) ≤ -1) = false := by decide
  rcases ho : S.off with _ | _
  · have hg : G (.returned (.tuple #[])) (w.setCell ⟨r, 3, none⟩ (.bool false)) := hG.out _ _ (by
      have e : Dk.pow S keep = { S with bud := -1 } := by unfold Dk.pow; rw [ho]; rfl
      rw [e]
      refine ⟨rfl, RN.r (h.of_row (S' := { S with bud := -1 }) (q := q0) hk1 rfl (by have := hob S.off; exact this) (fun hx => by have hx : (0 : Int) ≤ -1 := hx; omega) ?_) hk1⟩
      show Row _ r _ [_, _, _, .bool (decide ((0 : Int) ≤ -1)), _, _]
      rw [hneg]
      exact r1)
    rw [ho] at c2 d2
    clear hG h hr r1 hob hk1
    go_enter Tryd.func33, Tryd.ntmps33
    go_wp2
    go_end0
    exact hg
  · obtain ⟨S0, hS0⟩ : ∃ S0 : DS, S0 = { S with bud := -1, off := false } := ⟨_, rfl⟩
    have hg : ∀ w', RN w B r (rfoot r T L) { S0 with l := (L.map EF.f).map (cutf keep) } w' → G (.returned (.tuple #[])) w' := fun w' hd => hG.out _ _ (by
      have e : Dk.pow S keep = { S0 with l := (L.map EF.f).map (cutf keep) } := by unfold Dk.pow; rw [ho, hS0, h.ls]; rfl
      rw [e]; exact ⟨rfl, hd⟩)
    have hk2 := hk1.same (Keep.setCell (w.setCell ⟨r, 3, none⟩ (.bool false)) ⟨r, 2, none⟩ (.bool false))
    have hD0 : RAt ((w.setCell ⟨r, 3, none⟩ (.bool false)).setCell ⟨r, 2, none⟩ (.bool false)) B r S0 T c L := by
      subst hS0
      refine h.of_row (S' := { S with bud := -1, off := false }) (q := q0) hk2 rfl (hob false) (fun hx => by have hx : (0 : Int) ≤ -1 := hx; omega) ?_
      show Row _ r _ [_, _, _, .bool (decide ((0 : Int) ≤ -1)), _, _]
      rw [hneg]
      exact r1.set 2 (.bool false)
    have hl0 : S0.l = L.map EF.f := hD0.ls
    rw [ho] at c2 d2
    obtain ⟨n, hn⟩ : ∃ n, n = L.length := ⟨_, rfl⟩
    rw [← hn] at hL
    replace hn := Lib.hid hn
    replace hg := Lib.hid hg
    replace hS0 := Lib.hid hS0
    replace hl0 := Lib.hid hl0
    clear hG h hr r1 hob hok hk1 hneg hq0 ho
    go_enter Tryd.func33, Tryd.ntmps33
    go_wp2
    have hst0 : Stp (rfoot r T L) (rfoot r T L) w ((w.setCell ⟨r, 3, none⟩ (.bool false)).setCell ⟨r, 2, none⟩ (.bool false)) := stp_r hk2
    clear hk2 c3 f3 g2 d2 c2
    generalize (w.setCell ⟨r, 3, none⟩ (.bool false)).setCell ⟨r, 2, none⟩ (.bool false) = W at *
    go_loopw [4] (fun i wr => ∃ k : Nat, k ≤ n ∧ i = .int .i64 k ∧ RAt wr B r { S0 with l := (Lk keep L k).map EF.f } T c (Lk keep L k) ∧ Stp (rfoot r T L) (rfoot r T (Lk keep L k)) w wr) (fun i _ => n - (intOf i).toNat)
    case atStart =>
      refine ⟨0, Nat.zero_le _, rfl, ?_, ?_⟩
      · have e : Lk keep L 0 = L := by simp [Lk]
        rw [e, ← hl0.out]; exact hD0
      · have e : Lk keep L 0 = L := by simp [Lk]
        rw [e]; exact hst0
    case round =>
      obtain ⟨k, hk, rfl, hR, hSt⟩ := hrel
      have v1 := hR.c1
      rw [lk_len, ← hn.out] at v1
      by_cases hlt : k < n
      · obtain ⟨l1, e, l2, hL1, hL2, hk1⟩ := lk_at (keep := keep) (L := L) (k := k) (by rw [← hn.out]; exact hlt)
        rw [hL1] at hR hSt
        obtain ⟨t, rfl, _, _, d0, d1, d2, hfr⟩ := hR.tab.at
        rw [hk1] at d0 d1 d2
        have hfr1 := hfr (k * 3 + 1)
        have hE := hR.tab.fl e (by simp)
        have hA := hR.tab.ap e (by simp)
        have hsy := hR.ok.sy e.f (by rw [hR.ls]; simp)
        have hlen := hE.len
        have hnc := hE.nc
        have hrt : r ∉ [t] := fun hm => hR.ap (by rw [List.mem_singleton.1 hm]; simp [tfoot, rowOf])
        obtain ⟨u, hu⟩ : ∃ u, u = e.f.b.length - e.f.sy := ⟨_, rfl⟩
        obtain ⟨x, hx⟩ : ∃ x, x = (max keep 0).toNat % (u + 1) := ⟨_, rfl⟩
        have hxu : x ≤ u := by have := Nat.mod_lt (max keep 0).toNat (show 0 < u + 1 by omega); omega
        obtain ⟨z, hz⟩ : ∃ z, z = e.f.sy + x := ⟨_, rfl⟩
        have hzz : e.f.sy + (max keep 0).toNat % (e.f.b.length - e.f.sy + 1) = z := by rw [hz, hx, hu]
        have hzl : z ≤ e.f.b.length := by omega
        have hzc : z ≤ e.c := by omega
        obtain ⟨q, hq⟩ : ∃ q, q = e.f.b.length := ⟨_, rfl⟩
        obtain ⟨y, hy⟩ : ∃ y, y = e.f.sy := ⟨_, rfl⟩
        have hw1 : IntKind.i64.wrap ((q : Int) - (y : Int)) = (u : Int) := by rw [IntWalk.i64_in _ (by omega)]; omega
        rw [← hq] at d1 hzl hlen hnc
        rw [← hy] at d2
        have hzi : (z : Int) ≤ (e.c : Int) := by omega
        have hzq : (z : Int) ≤ (q : Int) := by omega
        rw [← hy, ← hq] at hu hsy
        rw [← hy] at hz
        replace hzz := Lib.hid hzz
        replace hR := Lib.hid hR
        replace hE := Lib.hid hE
        replace hA := Lib.hid hA
        replace hSt := Lib.hid hSt
        replace hL1 := Lib.hid hL1
        replace hL2 := Lib.hid hL2
        replace hk1 := Lib.hid hk1
        replace hq := Lib.hid hq
        replace hy := Lib.hid hy
        replace hst0 := Lib.hid hst0
        clear hfr
        by_cases hp : 0 < keep
        · have hdp : decide (0 < keep) = true := decide_eq_true hp
          have htm : keep.tmod ((u : Int) + 1) = (x : Int) := by
            rw [Int.tmod_eq_emod_of_nonneg (by omega), hx]
            have e1 : keep = ((max keep 0).toNat : Int) := by omega
            conv => lhs; rw [e1]
            have e2 : ((u : Int) + 1) = ((u + 1 : Nat) : Int) := by omega
            rw [e2]; exact (Int.natCast_emod _ _).symm
          have hw2 : IntKind.i64.wrap ((u : Int) + 1) = (u : Int) + 1 := IntWalk.i64_in _ (by omega)
          have hw3 : IntKind.i64.wrap (x : Int) = (x : Int) := IntWalk.i64_in _ (by omega)
          have hw4 : (y : Int) + (x : Int) = (z : Int) := by omega
          have hu0 : ¬ ((u : Int) + 1 = 0) := by omega
          have hz' := Lib.hid hz
          have hx' := Lib.hid hx
          have hu' := Lib.hid hu
          clear hz hx hu
          go_wp2_with fail
          go_quiet (fail)
          go_wp2
          go_region
          have hlz : (e.f.b.take z).length = z := by rw [List.length_take]; have := hq.out; omega
          have hE1 : EAt (wr.drewN (nq + 1)) B ⟨{ e.f with b := e.f.b.take z }, e.A, e.c⟩ := ⟨by rw [List.map_take]; exact (hE.out.rd.ext ((Ext.refl wr).drewN (nq + 1))).take z, by rw [hlz]; exact hzc, fun x hx => ⟨(hE.out.ge x hx).1, Nat.lt_of_lt_of_le (hE.out.ge x hx).2 ((Ext.refl wr).drewN (nq + 1)).size⟩, by have := hE.out.len; rw [hlz]; have := hq.out; omega⟩
          have ht1 := (hR.out.tab.ext ((Ext.refl wr).drewN (nq + 1))).set (e' := ⟨{ e.f with b := e.f.b.take z }, e.A, e.c⟩) 1 (by omega) (.slice e.A z e.c) (by simp [ecells, hlz]) hE1 (fun hm => hA.out _ hm (by simp [rowOf]))
          rw [hk1.out] at ht1
          have hk3 : Keep [t] wr ((wr.drewN (nq + 1)).setCell ⟨t, k * 3 + 1, none⟩ (.slice e.A z e.c)) := ((Keep.of_ext ((Ext.refl wr).drewN (nq + 1))).same (Keep.setCell (wr.drewN (nq + 1)) ⟨t, k * 3 + 1, none⟩ (.slice e.A z e.c)))
          generalize (wr.drewN (nq + 1)).setCell ⟨t, k * 3 + 1, none⟩ (.slice e.A z e.c) = w2 at *
          have v2 := hk3.cell v1 hrt
          obtain ⟨t', ht', _, _, _, _, d2', hfr⟩ := ht1.at
          injection ht' with ht'
          injection ht' with ht' _ _
          subst ht'
          rw [hk1.out] at d2'
          have hfr3 := hfr (k * 3 + 2)
          replace ht1 := Lib.hid ht1
          replace hk3 := Lib.hid hk3
          replace hlz := Lib.hid hlz
          clear hfr hfr1 hE1 d1 d2 d0 v1
          go_wp2
          have ht2 := ht1.out.set (e' := ⟨{ e.f with b := e.f.b.take z, sy := z }, e.A, e.c⟩) 2 (by omega) (.int .i64 (z : Nat)) (by simp [ecells]) (ht1.out.fl ⟨{ e.f with b := e.f.b.take z }, e.A, e.c⟩ (by simp) |> fun hr => ⟨hr.rd, hr.nc, hr.ge, hr.len⟩) (fun hm => hA.out _ hm (by simp [rowOf]))
          rw [hk1.out] at ht2
          have hkk := hk3.out.same (Keep.setCell w2 ⟨t, k * 3 + 2, none⟩ (.int .i64 (z : Nat)))
          have h3 := hR.out.tabbed_ hkk ht2 (fun x hx => .inl hx) (ok_E (e := e) hR.out.ok hR.out.ls rfl (by show z ≤ (e.f.b.take z).length; rw [hlz.out]; exact Nat.le_refl _) (by
            have : (used (l1.map EF.f) : Int) + e.f.b.length + used (l2.map EF.f) ≤ S0.room := used_E (e := e) hR.out.ok hR.out.ls
            show (used (l1.map EF.f) : Int) + (e.f.b.take z).length + used (l2.map EF.f) ≤ S0.room
            rw [hlz.out]; have := hq.out; omega))
          have hce : cutE keep e = ⟨{ e.f with b := e.f.b.take z, sy := z }, e.A, e.c⟩ := by unfold cutE cutf; rw [hzz.out]
          refine ⟨⟨k + 1, hlt, by simp, ?_, ?_⟩, meas hlt⟩
          · rw [hL2.out, hce]; exact h3.1
          · rw [hL2.out, hce]; exact hSt.out.trans h3.2
        · have hdp : decide (0 < keep) = false := decide_eq_false hp
          have hx0 : x = 0 := by
            have e1 : (max keep 0).toNat = 0 := by omega
            rw [hx, e1, Nat.zero_mod]
          have hzy : z = y := by omega
          subst hzy
          have hz' := Lib.hid hz
          have hx' := Lib.hid hx
          have hu' := Lib.hid hu
          clear hz hx hu hx0
          go_wp2_with fail
          go_quiet (fail)
          go_wp2
          go_region
          have hlz : (e.f.b.take z).length = z := by rw [List.length_take]; have := hq.out; omega
          have hE1 : EAt (wr.drewN (nq + 1)) B ⟨{ e.f with b := e.f.b.take z }, e.A, e.c⟩ := ⟨by rw [List.map_take]; exact (hE.out.rd.ext ((Ext.refl wr).drewN (nq + 1))).take z, by rw [hlz]; exact hzc, fun x hx => ⟨(hE.out.ge x hx).1, Nat.lt_of_lt_of_le (hE.out.ge x hx).2 ((Ext.refl wr).drewN (nq + 1)).size⟩, by have := hE.out.len; rw [hlz]; have := hq.out; omega⟩
          have ht1 := (hR.out.tab.ext ((Ext.refl wr).drewN (nq + 1))).set (e' := ⟨{ e.f with b := e.f.b.take z }, e.A, e.c⟩) 1 (by omega) (.slice e.A z e.c) (by simp [ecells, hlz]) hE1 (fun hm => hA.out _ hm (by simp [rowOf]))
          rw [hk1.out] at ht1
          have hk3 : Keep [t] wr ((wr.drewN (nq + 1)).setCell ⟨t, k * 3 + 1, none⟩ (.slice e.A z e.c)) := ((Keep.of_ext ((Ext.refl wr).drewN (nq + 1))).same (Keep.setCell (wr.drewN (nq + 1)) ⟨t, k * 3 + 1, none⟩ (.slice e.A z e.c)))
          generalize (wr.drewN (nq + 1)).setCell ⟨t, k * 3 + 1, none⟩ (.slice e.A z e.c) = w2 at *
          have v2 := hk3.cell v1 hrt
          obtain ⟨t', ht', _, _, _, _, d2', hfr⟩ := ht1.at
          injection ht' with ht'
          injection ht' with ht' _ _
          subst ht'
          rw [hk1.out] at d2'
          have hfr3 := hfr (k * 3 + 2)
          replace ht1 := Lib.hid ht1
          replace hk3 := Lib.hid hk3
          replace hlz := Lib.hid hlz
          clear hfr hfr1 hE1 d1 d2 d0 v1
          go_wp2
          have ht2 := ht1.out.set (e' := ⟨{ e.f with b := e.f.b.take z, sy := z }, e.A, e.c⟩) 2 (by omega) (.int .i64 (z : Nat)) (by simp [ecells]) (ht1.out.fl ⟨{ e.f with b := e.f.b.take z }, e.A, e.c⟩ (by simp) |> fun hr => ⟨hr.rd, hr.nc, hr.ge, hr.len⟩) (fun hm => hA.out _ hm (by simp [rowOf]))
          rw [hk1.out] at ht2
          have hkk := hk3.out.same (Keep.setCell w2 ⟨t, k * 3 + 2, none⟩ (.int .i64 (z : Nat)))
          have h3 := hR.out.tabbed_ hkk ht2 (fun x hx => .inl hx) (ok_E (e := e) hR.out.ok hR.out.ls rfl (by show z ≤ (e.f.b.take z).length; rw [hlz.out]; exact Nat.le_refl _) (by
            have : (used (l1.map EF.f) : Int) + e.f.b.length + used (l2.map EF.f) ≤ S0.room := used_E (e := e) hR.out.ok hR.out.ls
            show (used (l1.map EF.f) : Int) + (e.f.b.take z).length + used (l2.map EF.f) ≤ S0.room
            rw [hlz.out]; have := hq.out; omega))
          have hce : cutE keep e = ⟨{ e.f with b := e.f.b.take z, sy := z }, e.A, e.c⟩ := by unfold cutE cutf; rw [hzz.out]
          refine ⟨⟨k + 1, hlt, by simp, ?_, ?_⟩, meas hlt⟩
          · rw [hL2.out, hce]; exact h3.1
          · rw [hL2.out, hce]; exact hSt.out.trans h3.2
      · have hkn : k = L.length := by have := hn.out; omega
        rw [hkn, lk_end] at hR
        rw [hkn] at hSt
        have hgg := hg.out wr ⟨_, ⟨T, c, _, hR, rfl⟩, hSt⟩
        clear hR hSt hg hst0
        go_wp2
        go_end0
        exact hgg
end Go.Proofs.YtkgnaabmcboffaaDoor
