/-
  Both disks stand alike.
-/
import Derived.Test.YtkgnaabmcboffaaDoorDvU
import Derived.Test.YtkgnaabmcboffaaDoorTail
set_option linter.unusedSimpArgs false
set_option linter.unusedVariables false
namespace Go.Proofs.YtkgnaabmcboffaaDoor
open Go.RowKit Go.Cv Go.Cv.Dk
theorem rused_rk {B r : Nat} {S : DS} {bs : List Nat} {w : World} (h : Rsk w B r S bs) (hL : S.l.length < 1099511627776) :
    Calls Tryd.prog 36 #[.pointer (some ⟨r, 0, none⟩)] w fun e w' => e = .returned (.int .i64 (used S.l : Nat)) ∧ w = w' := by
  obtain ⟨T, c, L, h, rfl⟩ := h
  rw [h.ls, List.length_map] at hL
  exact rused_any B r S T c L w h (by omega)
set_option maxRecDepth 20000 in
set_option maxHeartbeats 6400000 in
theorem stands_any (B d r : Nat) (S : DS) (bs cs : List Nat) (w : World) (h : Two w B d r S S bs cs) (hL : S.l.length < 1099511627776) (hB : B ≤ w.heap.size) :
    Calls Tryd.prog 16 #[.pointer (some ⟨d, 0, none⟩), .pointer (some ⟨r, 0, none⟩)] w fun e w' => e = .returned (.bool true) ∧ Ext w w' := by
  refine calls_hid fun G hG => ?_
  have hg : ∀ w', Ext w w' → G (.returned (.bool true)) w' := fun w' hx => hG.out _ _ ⟨rfl, hx⟩
  replace hg := Lib.hid hg
  have hN := names_dk h.d (by omega)
  obtain ⟨T, c, L, hR, hcs⟩ := h.r
  have hlen : S.l.length = L.length := by rw [hR.ls, List.length_map]
  obtain ⟨n, hn⟩ : ∃ n, n = L.length := ⟨_, rfl⟩
  rw [hlen, ← hn] at hN
  obtain ⟨q, hq, hrow⟩ := hR.row
  have c1 : w.cell? ⟨r, 1, none⟩ = some (.slice T n c) := by rw [hn]; exact hrow.cell (i := 1) (by simp)
  have c2 : w.cell? ⟨r, 2, none⟩ = some (.bool S.off) := hrow.cell (i := 2) (by simp)
  have c5 : w.cell? ⟨r, 5, none⟩ = some (.int .i64 S.st) := hrow.cell (i := 5) (by simp)
  have hU0 : ∀ w1, Ext w w1 → Calls Tryd.prog 19 #[.pointer (some ⟨d, 0, none⟩)] w1 fun e w' => e = .returned (.int .i64 (used S.l : Nat)) ∧ Ext w1 w' := fun w1 hx => used_dk (h.ext hx).d
  have hV0 : ∀ w1, Ext w w1 → Calls Tryd.prog 36 #[.pointer (some ⟨r, 0, none⟩)] w1 fun e w' => e = .returned (.int .i64 (used S.l : Nat)) ∧ Ext w1 w' := fun w1 hx => (rused_rk (h.ext hx).r hL).mono fun e w' x => ⟨x.1, x.2 ▸ Ext.refl _⟩
  have hO0 : ∀ w1, Ext w w1 → Calls Tryd.prog 17 #[.pointer (some ⟨d, 0, none⟩)] w1 fun e w' => e = .returned (.bool (!S.off)) ∧ Ext w1 w' := fun w1 hx => (on_dk (h.ext hx).d).mono fun e w' x => ⟨x.1, x.2 ▸ Ext.refl _⟩
  have hP0 : ∀ w1, Ext w w1 → Calls Tryd.prog 37 #[.pointer (some ⟨d, 0, none⟩)] w1 fun e w' => e = .returned (.int .i64 S.st) ∧ Ext w1 w' := fun w1 hx => (steps_dk (h.ext hx).d).mono fun e w' x => ⟨x.1, x.2 ▸ Ext.refl _⟩
  generalize S.off = off at *
  generalize S.st = st at *
  generalize used S.l = us at *
  have hoo : ((!off) == off) = false := by cases off <;> rfl
  replace hn := Lib.hid hn
  replace hR := Lib.hid hR
  replace h := Lib.hid h
  replace hlen := Lib.hid hlen
  clear hG hrow hq hcs
  go_enter Tryd.func16, Tryd.ntmps16
  go_upto_region 2 with (go_at_call 35; (with_reducible refine hN.mono ?_); rintro e' w1 ⟨A1, c1n, rfl, ho1, hx1⟩; have v1 := hx1.cell c1; have v2 := hx1.cell c2; have v5 := hx1.cell c5; have hU := fun w2 (hx : Ext w1 w2) => hU0 w2 (hx1.trans hx); have hV := fun w2 (hx : Ext w1 w2) => hV0 w2 (hx1.trans hx); have hO := fun w2 (hx : Ext w1 w2) => hO0 w2 (hx1.trans hx); have hP := fun w2 (hx : Ext w1 w2) => hP0 w2 (hx1.trans hx))
  refine wp_region_sure (fun w' => Ext w1 w') (by kernel_rfl) (ext_drew _) ?_
  refine wpAnyS_go (i := 0) (some 14) (v := ?_) rfl rfl (by kernel_rfl) (by kernel_rfl) (by kernel_rfl) (fun _ _ _ h => h) (.inl ⟨by rfl, fun w hS => ?_⟩) ?_
  rotate_left
  · (try go_simp)
    refine ⟨?_, hS⟩
    with_reducible rfl
  simp only [Act.put, List.setIfInBounds_toArray, List.set_cons_zero, List.set_cons_succ]
  refine wpAnyS_go (i := 1) (some 15) (v := ?_) rfl rfl (by kernel_rfl) (by kernel_rfl) (by kernel_rfl) (fun _ _ _ h => h) (.inl ⟨by rfl, fun w hS => ?_⟩) ?_
  rotate_left
  · (try go_simp)
    refine ⟨?_, hS⟩
    with_reducible rfl
  simp only [Act.put, List.setIfInBounds_toArray, List.set_cons_zero, List.set_cons_succ]
  refine wpAnyS_go (i := 2) (some 16) (v := ?_) rfl rfl (by kernel_rfl) (by kernel_rfl) (by kernel_rfl) (fun _ _ _ h => h) (.inl ⟨by rfl, fun w hS => ?_⟩) ?_
  rotate_left
  · (try go_simp)
    refine ⟨?_, hS⟩
    with_reducible rfl
  simp only [Act.put, List.setIfInBounds_toArray, List.set_cons_zero, List.set_cons_succ]
  refine wpAnyS_go (i := 3) (some 17) (v := ?_) rfl rfl (by kernel_rfl) (by kernel_rfl) (by kernel_rfl) (fun _ _ _ h => h) (.inl ⟨by rfl, fun w hS => ?_⟩) ?_
  rotate_left
  · (try go_simp)
    refine ⟨?_, hS⟩
    with_reducible rfl
  simp only [Act.put, List.setIfInBounds_toArray, List.set_cons_zero, List.set_cons_succ]
  refine wpAnyS_go (i := 4) (some 18) (v := ?_) rfl rfl (by kernel_rfl) (by kernel_rfl) (by kernel_rfl) (fun _ _ _ h => h) (.inl ⟨by rfl, fun w hS => ?_⟩) ?_
  rotate_left
  · (try go_simp)
    refine ⟨?_, hS⟩
    with_reducible rfl
  simp only [Act.put, List.setIfInBounds_toArray, List.set_cons_zero, List.set_cons_succ]
  refine wpAnyS_go (i := 5) (some 19) (v := ?_) rfl rfl (by kernel_rfl) (by kernel_rfl) (by kernel_rfl) (fun _ _ _ h => h) (.inl ⟨by rfl, fun w hS => ?_⟩) ?_
  rotate_left
  · have q1 := Ext.cell hS v1
    go_simp
    refine ⟨?_, hS⟩
    with_reducible rfl
  simp only [Act.put, List.setIfInBounds_toArray, List.set_cons_zero, List.set_cons_succ]
  refine wpAnyS_go (i := 6) (some 20) (v := ?_) rfl rfl (by kernel_rfl) (by kernel_rfl) (by kernel_rfl) (fun _ _ _ h => h) (.inl ⟨by rfl, fun w hS => ?_⟩) ?_
  rotate_left
  · (try go_simp)
    refine ⟨?_, hS⟩
    with_reducible rfl
  simp only [Act.put, List.setIfInBounds_toArray, List.set_cons_zero, List.set_cons_succ]
  refine wpAnyS_go (i := 7) (some 21) (v := ?_) rfl rfl (by kernel_rfl) (by kernel_rfl) (by kernel_rfl) (fun _ _ _ h => h) (.inl ⟨by rfl, fun w hS => ?_⟩) ?_
  rotate_left
  · (try go_simp)
    refine ⟨?_, hS⟩
    with_reducible rfl
  simp only [Act.put, List.setIfInBounds_toArray, List.set_cons_zero, List.set_cons_succ]
  refine wpAnyS_go (i := 8) (some 22) (v := ?_) rfl rfl (by kernel_rfl) (by kernel_rfl) (by kernel_rfl) (fun _ _ _ h => h) (.inl ⟨by rfl, fun w hS => ?_⟩) ?_
  rotate_left
  · (try go_simp)
    refine ⟨?_, hS⟩
    with_reducible rfl
  simp only [Act.put, List.setIfInBounds_toArray, List.set_cons_zero, List.set_cons_succ]
  refine wpAnyS_go (i := 9) (some 23) (v := ?_) rfl rfl (by kernel_rfl) (by kernel_rfl) (by kernel_rfl) (fun _ _ _ h => h) (.inl ⟨by rfl, fun w hS => ?_⟩) ?_
  rotate_left
  · (try go_simp)
    refine ⟨?_, hS⟩
    with_reducible rfl
  simp only [Act.put, List.setIfInBounds_toArray, List.set_cons_zero, List.set_cons_succ]
  refine wpAnyS_go (i := 10) (some 24) (v := ?_) rfl rfl (by kernel_rfl) (by kernel_rfl) (by kernel_rfl) (fun _ _ _ h => h) (.inl ⟨by rfl, fun w hS => ?_⟩) ?_
  rotate_left
  · go_simp
    change Calls _ _ _ _ _
    refine Calls.mono (hU _ hS) ?_
    rintro e w' ⟨rfl, hx⟩
    refine ⟨?_, hS.trans hx⟩
    with_reducible rfl
  simp only [Act.put, List.setIfInBounds_toArray, List.set_cons_zero, List.set_cons_succ]
  refine wpAnyS_go (i := 11) (some 25) (v := ?_) rfl rfl (by kernel_rfl) (by kernel_rfl) (by kernel_rfl) (fun _ _ _ h => h) (.inl ⟨by rfl, fun w hS => ?_⟩) ?_
  rotate_left
  · (try go_simp)
    refine ⟨?_, hS⟩
    with_reducible rfl
  simp only [Act.put, List.setIfInBounds_toArray, List.set_cons_zero, List.set_cons_succ]
  refine wpAnyS_go (i := 12) (some 26) (v := ?_) rfl rfl (by kernel_rfl) (by kernel_rfl) (by kernel_rfl) (fun _ _ _ h => h) (.inl ⟨by rfl, fun w hS => ?_⟩) ?_
  rotate_left
  · go_simp
    change Calls _ _ _ _ _
    refine Calls.mono (hV _ hS) ?_
    rintro e w' ⟨rfl, hx⟩
    refine ⟨?_, hS.trans hx⟩
    with_reducible rfl
  simp only [Act.put, List.setIfInBounds_toArray, List.set_cons_zero, List.set_cons_succ]
  refine wpAnyS_go (i := 13) (some 27) (v := ?_) rfl rfl (by kernel_rfl) (by kernel_rfl) (by kernel_rfl) (fun _ _ _ h => h) (.inl ⟨by rfl, fun w hS => ?_⟩) ?_
  rotate_left
  · (try go_simp)
    refine ⟨?_, hS⟩
    with_reducible rfl
  simp only [Act.put, List.setIfInBounds_toArray, List.set_cons_zero, List.set_cons_succ]
  refine wpAnyS_go (i := 14) (some 28) (v := ?_) rfl rfl (by kernel_rfl) (by kernel_rfl) (by kernel_rfl) (fun _ _ _ h => h) (.inl ⟨by rfl, fun w hS => ?_⟩) ?_
  rotate_left
  · (try go_simp)
    refine ⟨?_, hS⟩
    with_reducible rfl
  simp only [Act.put, List.setIfInBounds_toArray, List.set_cons_zero, List.set_cons_succ]
  refine wpAnyS_go (i := 15) (some 29) (v := ?_) rfl rfl (by kernel_rfl) (by kernel_rfl) (by kernel_rfl) (fun _ _ _ h => h) (.inl ⟨by rfl, fun w hS => ?_⟩) ?_
  rotate_left
  · (try go_simp)
    refine ⟨?_, hS⟩
    with_reducible rfl
  simp only [Act.put, List.setIfInBounds_toArray, List.set_cons_zero, List.set_cons_succ]
  refine wpAnyS_go (i := 16) (some 30) (v := ?_) rfl rfl (by kernel_rfl) (by kernel_rfl) (by kernel_rfl) (fun _ _ _ h => h) (.inl ⟨by rfl, fun w hS => ?_⟩) ?_
  rotate_left
  · (try go_simp)
    refine ⟨?_, hS⟩
    with_reducible rfl
  simp only [Act.put, List.setIfInBounds_toArray, List.set_cons_zero, List.set_cons_succ]
  refine wpAnyS_go (i := 17) (some 31) (v := ?_) rfl rfl (by kernel_rfl) (by kernel_rfl) (by kernel_rfl) (fun _ _ _ h => h) (.inl ⟨by rfl, fun w hS => ?_⟩) ?_
  rotate_left
  · go_simp
    change Calls _ _ _ _ _
    refine Calls.mono (hO _ hS) ?_
    rintro e w' ⟨rfl, hx⟩
    refine ⟨?_, hS.trans hx⟩
    with_reducible rfl
  simp only [Act.put, List.setIfInBounds_toArray, List.set_cons_zero, List.set_cons_succ]
  refine wpAnyS_go (i := 18) (some 32) (v := ?_) rfl rfl (by kernel_rfl) (by kernel_rfl) (by kernel_rfl) (fun _ _ _ h => h) (.inl ⟨by rfl, fun w hS => ?_⟩) ?_
  rotate_left
  · (try go_simp)
    refine ⟨?_, hS⟩
    with_reducible rfl
  simp only [Act.put, List.setIfInBounds_toArray, List.set_cons_zero, List.set_cons_succ]
  refine wpAnyS_go (i := 19) (some 33) (v := ?_) rfl rfl (by kernel_rfl) (by kernel_rfl) (by kernel_rfl) (fun _ _ _ h => h) (.inl ⟨by rfl, fun w hS => ?_⟩) ?_
  rotate_left
  · (try go_simp)
    refine ⟨?_, hS⟩
    with_reducible rfl
  simp only [Act.put, List.setIfInBounds_toArray, List.set_cons_zero, List.set_cons_succ]
  refine wpAnyS_go (i := 20) (some 34) (v := ?_) rfl rfl (by kernel_rfl) (by kernel_rfl) (by kernel_rfl) (fun _ _ _ h => h) (.inl ⟨by rfl, fun w hS => ?_⟩) ?_
  rotate_left
  · (try go_simp)
    refine ⟨?_, hS⟩
    with_reducible rfl
  simp only [Act.put, List.setIfInBounds_toArray, List.set_cons_zero, List.set_cons_succ]
  refine wpAnyS_go (i := 21) (some 35) (v := ?_) rfl rfl (by kernel_rfl) (by kernel_rfl) (by kernel_rfl) (fun _ _ _ h => h) (.inl ⟨by rfl, fun w hS => ?_⟩) ?_
  rotate_left
  · have q2 := Ext.cell hS v2
    go_simp
    refine ⟨?_, hS⟩
    with_reducible rfl
  simp only [Act.put, List.setIfInBounds_toArray, List.set_cons_zero, List.set_cons_succ]
  refine wpAnyS_go (i := 22) (some 36) (v := ?_) rfl rfl (by kernel_rfl) (by kernel_rfl) (by kernel_rfl) (fun _ _ _ h => h) (.inl ⟨by rfl, fun w hS => ?_⟩) ?_
  rotate_left
  · (try go_simp)
    refine ⟨?_, hS⟩
    with_reducible rfl
  simp only [Act.put, List.setIfInBounds_toArray, List.set_cons_zero, List.set_cons_succ]
  refine wpAnyS_go (i := 23) (some 37) (v := ?_) rfl rfl (by kernel_rfl) (by kernel_rfl) (by kernel_rfl) (fun _ _ _ h => h) (.inl ⟨by rfl, fun w hS => ?_⟩) ?_
  rotate_left
  · (try go_simp)
    refine ⟨?_, hS⟩
    with_reducible rfl
  simp only [Act.put, List.setIfInBounds_toArray, List.set_cons_zero, List.set_cons_succ]
  refine wpAnyS_go (i := 24) (some 38) (v := ?_) rfl rfl (by kernel_rfl) (by kernel_rfl) (by kernel_rfl) (fun _ _ _ h => h) (.inl ⟨by rfl, fun w hS => ?_⟩) ?_
  rotate_left
  · (try go_simp)
    refine ⟨?_, hS⟩
    with_reducible rfl
  simp only [Act.put, List.setIfInBounds_toArray, List.set_cons_zero, List.set_cons_succ]
  refine wpAnyS_go (i := 25) (some 39) (v := ?_) rfl rfl (by kernel_rfl) (by kernel_rfl) (by kernel_rfl) (fun _ _ _ h => h) (.inl ⟨by rfl, fun w hS => ?_⟩) ?_
  rotate_left
  · (try go_simp)
    refine ⟨?_, hS⟩
    with_reducible rfl
  simp only [Act.put, List.setIfInBounds_toArray, List.set_cons_zero, List.set_cons_succ]
  refine wpAnyS_go (i := 26) (some 40) (v := ?_) rfl rfl (by kernel_rfl) (by kernel_rfl) (by kernel_rfl) (fun _ _ _ h => h) (.inl ⟨by rfl, fun w hS => ?_⟩) ?_
  rotate_left
  · go_simp
    change Calls _ _ _ _ _
    refine Calls.mono (hP _ hS) ?_
    rintro e w' ⟨rfl, hx⟩
    refine ⟨?_, hS.trans hx⟩
    with_reducible rfl
  simp only [Act.put, List.setIfInBounds_toArray, List.set_cons_zero, List.set_cons_succ]
  refine wpAnyS_go (i := 27) (some 41) (v := ?_) rfl rfl (by kernel_rfl) (by kernel_rfl) (by kernel_rfl) (fun _ _ _ h => h) (.inl ⟨by rfl, fun w hS => ?_⟩) ?_
  rotate_left
  · (try go_simp)
    refine ⟨?_, hS⟩
    with_reducible rfl
  simp only [Act.put, List.setIfInBounds_toArray, List.set_cons_zero, List.set_cons_succ]
  refine wpAnyS_go (i := 28) (some 42) (v := ?_) rfl rfl (by kernel_rfl) (by kernel_rfl) (by kernel_rfl) (fun _ _ _ h => h) (.inl ⟨by rfl, fun w hS => ?_⟩) ?_
  rotate_left
  · (try go_simp)
    refine ⟨?_, hS⟩
    with_reducible rfl
  simp only [Act.put, List.setIfInBounds_toArray, List.set_cons_zero, List.set_cons_succ]
  refine wpAnyS_go (i := 29) (some 43) (v := ?_) rfl rfl (by kernel_rfl) (by kernel_rfl) (by kernel_rfl) (fun _ _ _ h => h) (.inl ⟨by rfl, fun w hS => ?_⟩) ?_
  rotate_left
  · (try go_simp)
    refine ⟨?_, hS⟩
    with_reducible rfl
  simp only [Act.put, List.setIfInBounds_toArray, List.set_cons_zero, List.set_cons_succ]
  refine wpAnyS_go (i := 30) (some 44) (v := ?_) rfl rfl (by kernel_rfl) (by kernel_rfl) (by kernel_rfl) (fun _ _ _ h => h) (.inl ⟨by rfl, fun w hS => ?_⟩) ?_
  rotate_left
  · have q5 := Ext.cell hS v5
    go_simp
    refine ⟨?_, hS⟩
    with_reducible rfl
  simp only [Act.put, List.setIfInBounds_toArray, List.set_cons_zero, List.set_cons_succ]
  refine wpAnyS_go (i := 31) (some 45) (v := ?_) rfl rfl (by kernel_rfl) (by kernel_rfl) (by kernel_rfl) (fun _ _ _ h => h) (.inl ⟨by rfl, fun w hS => ?_⟩) ?_
  rotate_left
  · (try go_simp)
    refine ⟨?_, hS⟩
    with_reducible rfl
  simp only [Act.put, List.setIfInBounds_toArray, List.set_cons_zero, List.set_cons_succ]
  refine wpAnyS_go (i := 32) (some 46) (v := ?_) rfl rfl (by kernel_rfl) (by kernel_rfl) (by kernel_rfl) (fun _ _ _ h => h) (.inl ⟨by rfl, fun w hS => ?_⟩) ?_
  rotate_left
  · (try go_simp)
    refine ⟨?_, hS⟩
    with_reducible rfl
  simp only [Act.put, List.setIfInBounds_toArray, List.set_cons_zero, List.set_cons_succ]
  refine wpAnyS_done (by kernel_rfl) fun w2 hS2 => ?_
  go_wp2
  have hx2 : Ext w w2 := hx1.trans hS2
  have ho2 := own_ext ho1 hS2
  clear hU hV hO hP hU0 hV0 hO0 hP0 v1 v2 v5 c2 c5 hoo hN ho1
  go_loopw [6] (fun i wr => ∃ k : Nat, k ≤ n ∧ i = .int .i64 k ∧ Ext w2 wr) (fun i _ => n - (intOf i).toNat)
  case atStart => exact ⟨0, Nat.zero_le _, rfl, Ext.refl _⟩
  case round =>
    obtain ⟨k, hk, rfl, hxr⟩ := hrel
    by_cases hlt : k < n
    · obtain ⟨l1, e, l2, hL1, hl1, ht1, ht2⟩ := split_at (l := L) (k := k) (by rw [← hn.out]; exact hlt)
      have hxw := hx2.trans hxr
      have hRr := hR.out.ext hxw
      have z2 : wr.cell? ⟨r, 1, none⟩ = some (.slice T n c) := hxw.cell c1
      rw [hL1] at hRr
      obtain ⟨t, rfl, _, _, d0, d1, d2, _⟩ := hRr.tab.at
      rw [hl1] at d0
      have hor := own_ext ho2 hxr
      obtain ⟨g, cs', hA1, _, hnc, hcm, _, _, _⟩ := own_pos hor (by omega)
      subst hA1
      have hkl : k < L.length := by rw [← hn.out]; exact hlt
      have hLk : S.l[k]? = some e.f := by rw [hR.out.ls, hL1, List.map_append, List.map_cons, List.getElem?_append_right (by rw [List.length_map, hl1]; exact Nat.le_refl _), List.length_map, hl1, Nat.sub_self]; rfl
      have z1 : wr.cell? ⟨g, k, none⟩ = some (.string ⟨e.f.nm.toArray⟩) := by
        have h1 := hor.cells (g := g) rfl k (.string ⟨e.f.nm.toArray⟩) (by rw [List.getElem?_map, hLk]; rfl)
        have e1 : (⟨g, 0, none⟩ : Addr).add k = ⟨g, k, none⟩ := by unfold Addr.add; split <;> simp_all
        rwa [e1] at h1
      obtain ⟨s, hs⟩ : ∃ s : ByteArray, s = ⟨e.f.nm.toArray⟩ := ⟨_, rfl⟩
      rw [← hs] at z1 d0
      have hsz : s.size ≤ 281474976710656 := by
        have h1 := hR.out.ok.nm e.f (List.mem_of_getElem? hLk)
        unfold nameOk at h1
        rw [Bool.and_eq_true] at h1
        have h2 := of_decide_eq_true h1.1
        have : s.size = e.f.nm.length := by rw [hs]; simp [ByteArray.size]
        omega
      have hA := readd_dk s (h.out.ext hxw).d hsz
      have hcd := dno_rd S s.data.toList
      obtain ⟨no, by_, hrd⟩ : ∃ no by_, rd S s.data.toList = (no, by_) := ⟨_, _, rfl⟩
      have hB4 := fun w1 (hx : Ext wr w1) => rread_rk s (h.out.ext (hxw.trans hx)).r hL
      rw [hrd] at hA hB4 hcd
      obtain ⟨m, hm⟩ : ∃ m, m = by_.length := ⟨_, rfl⟩
      dsimp only at hA hB4 hcd
      simp only [← hm] at hA hB4
      replace hm := Lib.hid hm
      replace hcd := Lib.hid hcd
      replace hL1 := Lib.hid hL1
      replace hl1 := Lib.hid hl1
      replace hs := Lib.hid hs
      clear d1 d2 hRr hor hLk ht1 ht2 hrd hkl
      go_upto_region 9 with (first
        | (go_at_call 12; (with_reducible refine hA.mono ?_); rintro e' w3 ⟨v, rfl, A3, c3, rfl, hx3, ho3, hc3, hm3, hr3⟩; have z1' := hx3.cell z1; have z2' := hx3.cell z2; have z3' := hx3.cell d0; have hBB := hB4 w3 hx3)
        | (go_at_call 34; (with_reducible refine hBB.mono ?_); rintro e' w4 ⟨A4, c4, rfl, hr4, hl4, rfl⟩))
      clear z1 z2 d0
      have z1 := z1'
      have z2 := z2'
      have z3 := z3'
      have hM : ∀ w1, Ext w3 w1 → Calls Tryd.prog 13 #[.slice A3 m c3, .slice A4 m c4] w1 fun e w' => e = .returned (.bool true) ∧ Ext w1 w' := fun w1 hx => by
        have := same10_any A3 m c3 by_ A4 m c4 by_ w1 hm.out.symm (hr3.ext hx) hm.out.symm (hr4.ext hx)
        rw [decide_eq_true rfl] at this
        exact this.mono fun e w' x => ⟨x.1, x.2 ▸ Ext.refl _⟩
      have hC : ∀ w1, Ext w3 w1 → Calls Tryd.prog 24 #[errV no] w1 fun e w' => e = .returned (.int .i64 (no : Nat)) ∧ Ext w1 w' := fun w1 hx => (code_err hcd.out w1).mono fun e w' x => ⟨x.1, x.2 ▸ Ext.refl _⟩
      refine wp_region_sure (fun w' => Ext w3 w') (by kernel_rfl) (ext_drew _) ?_
      refine wpAnyS_go (i := 0) (some 71) (v := ?_) rfl rfl (by kernel_rfl) (by kernel_rfl) (by kernel_rfl) (fun _ _ _ h => h) (.inl ⟨by rfl, fun w hS => ?_⟩) ?_
      rotate_left
      · (try go_simp)
        refine ⟨?_, hS⟩
        with_reducible rfl
      simp only [Act.put, List.setIfInBounds_toArray, List.set_cons_zero, List.set_cons_succ]
      refine wpAnyS_go (i := 1) (some 72) (v := ?_) rfl rfl (by kernel_rfl) (by kernel_rfl) (by kernel_rfl) (fun _ _ _ h => h) (.inl ⟨by rfl, fun w hS => ?_⟩) ?_
      rotate_left
      · (try go_simp)
        refine ⟨?_, hS⟩
        with_reducible rfl
      simp only [Act.put, List.setIfInBounds_toArray, List.set_cons_zero, List.set_cons_succ]
      refine wpAnyS_go (i := 2) (some 73) (v := ?_) rfl rfl (by kernel_rfl) (by kernel_rfl) (by kernel_rfl) (fun _ _ _ h => h) (.inl ⟨by rfl, fun w hS => ?_⟩) ?_
      rotate_left
      · (try go_simp)
        refine ⟨?_, hS⟩
        with_reducible rfl
      simp only [Act.put, List.setIfInBounds_toArray, List.set_cons_zero, List.set_cons_succ]
      refine wpAnyS_go (i := 3) (some 74) (v := ?_) rfl rfl (by kernel_rfl) (by kernel_rfl) (by kernel_rfl) (fun _ _ _ h => h) (.inl ⟨by rfl, fun w hS => ?_⟩) ?_
      rotate_left
      · have q1 := Ext.cell hS z1
        go_simp
        refine ⟨?_, hS⟩
        with_reducible rfl
      simp only [Act.put, List.setIfInBounds_toArray, List.set_cons_zero, List.set_cons_succ]
      refine wpAnyS_go (i := 4) (some 75) (v := ?_) rfl rfl (by kernel_rfl) (by kernel_rfl) (by kernel_rfl) (fun _ _ _ h => h) (.inl ⟨by rfl, fun w hS => ?_⟩) ?_
      rotate_left
      · (try go_simp)
        refine ⟨?_, hS⟩
        with_reducible rfl
      simp only [Act.put, List.setIfInBounds_toArray, List.set_cons_zero, List.set_cons_succ]
      refine wpAnyS_go (i := 5) (some 76) (v := ?_) rfl rfl (by kernel_rfl) (by kernel_rfl) (by kernel_rfl) (fun _ _ _ h => h) (.inl ⟨by rfl, fun w hS => ?_⟩) ?_
      rotate_left
      · (try go_simp)
        refine ⟨?_, hS⟩
        with_reducible rfl
      simp only [Act.put, List.setIfInBounds_toArray, List.set_cons_zero, List.set_cons_succ]
      refine wpAnyS_go (i := 6) (some 77) (v := ?_) rfl rfl (by kernel_rfl) (by kernel_rfl) (by kernel_rfl) (fun _ _ _ h => h) (.inl ⟨by rfl, fun w hS => ?_⟩) ?_
      rotate_left
      · (try go_simp)
        refine ⟨?_, hS⟩
        with_reducible rfl
      simp only [Act.put, List.setIfInBounds_toArray, List.set_cons_zero, List.set_cons_succ]
      refine wpAnyS_go (i := 7) (some 78) (v := ?_) rfl rfl (by kernel_rfl) (by kernel_rfl) (by kernel_rfl) (fun _ _ _ h => h) (.inl ⟨by rfl, fun w hS => ?_⟩) ?_
      rotate_left
      · have q2 := Ext.cell hS z2
        go_simp
        refine ⟨?_, hS⟩
        with_reducible rfl
      simp only [Act.put, List.setIfInBounds_toArray, List.set_cons_zero, List.set_cons_succ]
      refine wpAnyS_go (i := 8) (some 79) (v := ?_) rfl rfl (by kernel_rfl) (by kernel_rfl) (by kernel_rfl) (fun _ _ _ h => h) (.inl ⟨by rfl, fun w hS => ?_⟩) ?_
      rotate_left
      · (try go_simp)
        refine ⟨?_, hS⟩
        with_reducible rfl
      simp only [Act.put, List.setIfInBounds_toArray, List.set_cons_zero, List.set_cons_succ]
      refine wpAnyS_go (i := 9) (some 80) (v := ?_) rfl rfl (by kernel_rfl) (by kernel_rfl) (by kernel_rfl) (fun _ _ _ h => h) (.inl ⟨by rfl, fun w hS => ?_⟩) ?_
      rotate_left
      · (try go_simp)
        refine ⟨?_, hS⟩
        with_reducible rfl
      simp only [Act.put, List.setIfInBounds_toArray, List.set_cons_zero, List.set_cons_succ]
      refine wpAnyS_go (i := 10) (some 81) (v := ?_) rfl rfl (by kernel_rfl) (by kernel_rfl) (by kernel_rfl) (fun _ _ _ h => h) (.inl ⟨by rfl, fun w hS => ?_⟩) ?_
      rotate_left
      · (try go_simp)
        refine ⟨?_, hS⟩
        with_reducible rfl
      simp only [Act.put, List.setIfInBounds_toArray, List.set_cons_zero, List.set_cons_succ]
      refine wpAnyS_go (i := 11) (some 82) (v := ?_) rfl rfl (by kernel_rfl) (by kernel_rfl) (by kernel_rfl) (fun _ _ _ h => h) (.inl ⟨by rfl, fun w hS => ?_⟩) ?_
      rotate_left
      · have q5 := Ext.cell hS z3
        go_simp
        refine ⟨?_, hS⟩
        with_reducible rfl
      simp only [Act.put, List.setIfInBounds_toArray, List.set_cons_zero, List.set_cons_succ]
      refine wpAnyS_go (i := 12) (some 83) (v := ?_) rfl rfl (by kernel_rfl) (by kernel_rfl) (by kernel_rfl) (fun _ _ _ h => h) (.inl ⟨by rfl, fun w hS => ?_⟩) ?_
      rotate_left
      · (try go_simp)
        refine ⟨?_, hS⟩
        with_reducible rfl
      simp only [Act.put, List.setIfInBounds_toArray, List.set_cons_zero, List.set_cons_succ]
      refine wpAnyS_go (i := 13) (some 84) (v := ?_) rfl rfl (by kernel_rfl) (by kernel_rfl) (by kernel_rfl) (fun _ _ _ h => h) (.inl ⟨by rfl, fun w hS => ?_⟩) ?_
      rotate_left
      · (try go_simp)
        refine ⟨?_, hS⟩
        with_reducible rfl
      simp only [Act.put, List.setIfInBounds_toArray, List.set_cons_zero, List.set_cons_succ]
      refine wpAnyS_go (i := 14) (some 85) (v := ?_) rfl rfl (by kernel_rfl) (by kernel_rfl) (by kernel_rfl) (fun _ _ _ h => h) (.inl ⟨by rfl, fun w hS => ?_⟩) ?_
      rotate_left
      · (try go_simp)
        refine ⟨?_, hS⟩
        with_reducible rfl
      simp only [Act.put, List.setIfInBounds_toArray, List.set_cons_zero, List.set_cons_succ]
      refine wpAnyS_go (i := 15) (some 86) (v := ?_) rfl rfl (by kernel_rfl) (by kernel_rfl) (by kernel_rfl) (fun _ _ _ h => h) (.inl ⟨by rfl, fun w hS => ?_⟩) ?_
      rotate_left
      · (try go_simp)
        refine ⟨?_, hS⟩
        with_reducible rfl
      simp only [Act.put, List.setIfInBounds_toArray, List.set_cons_zero, List.set_cons_succ]
      refine wpAnyS_go (i := 16) (some 87) (v := ?_) rfl rfl (by kernel_rfl) (by kernel_rfl) (by kernel_rfl) (fun _ _ _ h => h) (.inl ⟨by rfl, fun w hS => ?_⟩) ?_
      rotate_left
      · go_simp
        change Calls _ _ _ _ _
        refine Calls.mono (hM _ hS) ?_
        rintro e w' ⟨rfl, hx⟩
        refine ⟨?_, hS.trans hx⟩
        with_reducible rfl
      simp only [Act.put, List.setIfInBounds_toArray, List.set_cons_zero, List.set_cons_succ]
      refine wpAnyS_go (i := 17) (some 88) (v := ?_) rfl rfl (by kernel_rfl) (by kernel_rfl) (by kernel_rfl) (fun _ _ _ h => h) (.inl ⟨by rfl, fun w hS => ?_⟩) ?_
      rotate_left
      · (try go_simp)
        refine ⟨?_, hS⟩
        with_reducible rfl
      simp only [Act.put, List.setIfInBounds_toArray, List.set_cons_zero, List.set_cons_succ]
      refine wpAnyS_go (i := 18) (some 89) (v := ?_) rfl rfl (by kernel_rfl) (by kernel_rfl) (by kernel_rfl) (fun _ _ _ h => h) (.inl ⟨by rfl, fun w hS => ?_⟩) ?_
      rotate_left
      · (try go_simp)
        refine ⟨?_, hS⟩
        with_reducible rfl
      simp only [Act.put, List.setIfInBounds_toArray, List.set_cons_zero, List.set_cons_succ]
      refine wpAnyS_go (i := 19) (some 90) (v := ?_) rfl rfl (by kernel_rfl) (by kernel_rfl) (by kernel_rfl) (fun _ _ _ h => h) (.inl ⟨by rfl, fun w hS => ?_⟩) ?_
      rotate_left
      · (try go_simp)
        refine ⟨?_, hS⟩
        with_reducible rfl
      simp only [Act.put, List.setIfInBounds_toArray, List.set_cons_zero, List.set_cons_succ]
      refine wpAnyS_go (i := 20) (some 91) (v := ?_) rfl rfl (by kernel_rfl) (by kernel_rfl) (by kernel_rfl) (fun _ _ _ h => h) (.inl ⟨by rfl, fun w hS => ?_⟩) ?_
      rotate_left
      · (try go_simp)
        refine ⟨?_, hS⟩
        with_reducible rfl
      simp only [Act.put, List.setIfInBounds_toArray, List.set_cons_zero, List.set_cons_succ]
      refine wpAnyS_go (i := 21) (some 92) (v := ?_) rfl rfl (by kernel_rfl) (by kernel_rfl) (by kernel_rfl) (fun _ _ _ h => h) (.inl ⟨by rfl, fun w hS => ?_⟩) ?_
      rotate_left
      · go_simp
        change Calls _ _ _ _ _
        refine Calls.mono (hC _ hS) ?_
        rintro e w' ⟨rfl, hx⟩
        refine ⟨?_, hS.trans hx⟩
        with_reducible rfl
      simp only [Act.put, List.setIfInBounds_toArray, List.set_cons_zero, List.set_cons_succ]
      refine wpAnyS_go (i := 22) (some 93) (v := ?_) rfl rfl (by kernel_rfl) (by kernel_rfl) (by kernel_rfl) (fun _ _ _ h => h) (.inl ⟨by rfl, fun w hS => ?_⟩) ?_
      rotate_left
      · (try go_simp)
        refine ⟨?_, hS⟩
        with_reducible rfl
      simp only [Act.put, List.setIfInBounds_toArray, List.set_cons_zero, List.set_cons_succ]
      refine wpAnyS_go (i := 23) (some 94) (v := ?_) rfl rfl (by kernel_rfl) (by kernel_rfl) (by kernel_rfl) (fun _ _ _ h => h) (.inl ⟨by rfl, fun w hS => ?_⟩) ?_
      rotate_left
      · (try go_simp)
        refine ⟨?_, hS⟩
        with_reducible rfl
      simp only [Act.put, List.setIfInBounds_toArray, List.set_cons_zero, List.set_cons_succ]
      refine wpAnyS_go (i := 24) (some 95) (v := ?_) rfl rfl (by kernel_rfl) (by kernel_rfl) (by kernel_rfl) (fun _ _ _ h => h) (.inl ⟨by rfl, fun w hS => ?_⟩) ?_
      rotate_left
      · (try go_simp)
        refine ⟨?_, hS⟩
        with_reducible rfl
      simp only [Act.put, List.setIfInBounds_toArray, List.set_cons_zero, List.set_cons_succ]
      refine wpAnyS_done (by kernel_rfl) fun w5 hS5 => ?_
      go_wp2
      have hx5 : Ext w2 w5 := hxr.trans (hx3.trans hS5)
      have ho5 := own_ext ho3 hS5
      have hrw2 := hxr.size
      have hwk : wrap64 ((k : Int) + 1) = (k : Int) + 1 := IntWalk.wrap64_in _ (by have h1 := hn.out; have h2 := hlen.out; omega)
      have hmb : m ≤ 9223372036854775807 := by have := hm3; unfold maxLen at this; omega
      clear hM hC z1 z2 z3 z1' z2' z3' ho3 hr3 hr4 hl4 hA hB4 hBB
      go_loopw [11] (fun i wq => ∃ (j : Nat) (l : List UInt8), j ≤ m ∧ i = .int .i64 j ∧ Hid (l.length = m) ∧ wq.ownsRow wr.heap.size 5 1 (.slice A3 m c3) m (l.map bv) ∧ Ext w2 wq) (fun i _ => m - (intOf i).toNat)
      case atStart => exact ⟨0, by_, Nat.zero_le _, rfl, Lib.hid hm.out.symm, ho5, hx5⟩
      case round =>
        obtain ⟨j, l, hjm, rfl, hlm, ho, hxq⟩ := hrel
        by_cases hlj : j < m
        · obtain ⟨g3, cs3, hA3, hbg, hnc3, hcm3, hrw, hlc, htk⟩ := own_pos ho (by omega)
          subst hA3
          have hjl : j < l.length := by rw [hlm.out]; exact hlj
          have hcell : wr.cell? ⟨g3, j, none⟩ = some (bv l[j]) := by
            have h1 := ho.cells (g := g3) rfl j (bv l[j]) (by rw [List.getElem?_map, List.getElem?_eq_getElem hjl]; rfl)
            have e1 : (⟨g3, 0, none⟩ : Addr).add j = ⟨g3, j, none⟩ := by unfold Addr.add; split <;> simp_all
            rwa [e1] at h1
          have hfr := hrw.fro j
          have hset := own_set ho j (bv (l[j] ^^^ 255))
          have hks := ext_keep hxq (Keep.setCell wr ⟨g3, j, none⟩ (bv (l[j] ^^^ 255))) (fun x hx => by rw [List.mem_singleton.1 hx]; show w2.heap.size ≤ g3; omega)
          replace hset := Lib.hid hset
          clear hrw htk ho
          go_wp2
          exact ⟨⟨j + 1, l.set j (l[j] ^^^ 255), hlj, by simp, Lib.hid (by rw [List.length_set]; exact hlm.out), by rw [List.map_set]; exact hset.out, hks⟩, meas hlj⟩
        · clear ho
          go_wp2
          go_roundw
          case rel => exact ⟨k + 1, hlt, by rw [hwk]; simp, hxq⟩
          case measure => rw [hwk]; exact meas hlt
    · go_wp2
      exact hg.out _ (hx2.trans hxr)
end Go.Proofs.YtkgnaabmcboffaaDoor
