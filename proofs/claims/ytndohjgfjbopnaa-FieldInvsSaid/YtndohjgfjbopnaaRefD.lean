/-
  Walks of the document's answer: differences of numbers.
-/
import Derived.Test.YtndohjgfjbopnaaRefC
set_option linter.unusedSimpArgs false
set_option linter.unusedVariables false
namespace Go.Cv.Dig
open Go.RowKit
/-- What stands behind i digits of a difference. -/
structure LessInv (a b ds : List Nat) (o i : Nat) : Prop where
  len : ds.length = i
  small : Small ds
  owed : o ≤ 1
  val : dval ds + lo b i = lo a i + 16777216 ^ i * o
theorem LessInv.start (a b : List Nat) : LessInv a b [] 0 0 := ⟨rfl, Small.nil_, by omega, by simp [dval, lo]⟩
theorem LessInv.up {a b ds : List Nat} {o i : Nat} (ha : Small a) (h : LessInv a b ds o i) (hg : dg b i + o ≤ dg a i) : LessInv a b (ds ++ [dg a i - dg b i - o]) 0 (i + 1) := by
  have h1 := ha.dg i
  refine ⟨by simp [h.len], h.small.snoc (by omega), by omega, ?_⟩
  have hv := h.val
  rw [dval_snoc, h.len, lo_succ, lo_succ, Nat.mul_zero]
  have e : 16777216 ^ i * (dg a i - dg b i - o) + 16777216 ^ i * dg b i + 16777216 ^ i * o = 16777216 ^ i * dg a i := by
    rw [← Nat.mul_add, ← Nat.mul_add]
    congr 1
    omega
  omega
theorem LessInv.down {a b ds : List Nat} {o i : Nat} (hb : Small b) (h : LessInv a b ds o i) (hg : dg a i < dg b i + o) : LessInv a b (ds ++ [dg a i + 16777216 - dg b i - o]) 1 (i + 1) := by
  have h1 := hb.dg i
  have ho := h.owed
  refine ⟨by simp [h.len], h.small.snoc (by omega), by omega, ?_⟩
  have hv := h.val
  rw [dval_snoc, h.len, lo_succ, lo_succ, Nat.mul_one, Nat.pow_succ]
  have e : 16777216 ^ i * (dg a i + 16777216 - dg b i - o) + 16777216 ^ i * dg b i + 16777216 ^ i * o = 16777216 ^ i * dg a i + 16777216 ^ i * 16777216 := by
    rw [← Nat.mul_add, ← Nat.mul_add, ← Nat.mul_add]
    congr 1
    omega
  omega
theorem LessInv.done {a b ds : List Nat} {o : Nat} (hb : b.length ≤ a.length) (hle : dval b ≤ dval a) (h : LessInv a b ds o a.length) : dval ds = dval a - dval b := by
  have hv := h.val
  rw [lo_all hb, lo_all (Nat.le_refl _)] at hv
  have h1 := h.small.lt
  rw [h.len] at h1
  have ho := h.owed
  rcases (by omega : o = 0 ∨ o = 1) with rfl | rfl
  · omega
  · omega
theorem Canon.le_len {a b : List Nat} (ha : Canon a) (hb : Canon b) (h : dval b ≤ dval a) : b.length ≤ a.length := by
  rcases Nat.lt_or_ge a.length b.length with h1 | h1
  · have := Canon.len_lt ha hb h1
    omega
  · exact h1
end Go.Cv.Dig
namespace Go.Proofs.Ytndohjgfjbopnaa
open Go.RowKit Go.Cv Go.Cv.Dig

set_option maxRecDepth 4000 in
set_option maxHeartbeats 4000000 in
theorem less_any (A B : Option Addr) (n1 n2 c1 c2 : Nat) (l m : List Nat) (w0 : World) (hn1 : l.length = n1) (hn2 : m.length = n2) (hl : Canon l) (hm : Canon m) (hle : dval m ≤ dval l)
    (hr1 : Rd w0 A (l.map iv)) (hr2 : Rd w0 B (m.map iv)) (hb1 : n1 ≤ 1000000) (hb2 : n2 ≤ 1000000) :
    Calls Try.prog 63 #[.slice A n1 c1, .slice B n2 c2] w0 fun e w' => ∃ v, e = .returned v ∧ Num w' v (dval l - dval m) n1 ∧ Ext w0 w' := by
  have HN1 := Lib.hid hn1
  have HN2 := Lib.hid hn2
  have HL := Lib.hid hl
  have HM := Lib.hid hm
  have HLE := Lib.hid hle
  clear hl hm hle hn1 hn2
  go_enter Try.func63, Try.ntmps63
  go_wp2
  go_loopw [5, 6, 7, 8] (fun v t6 t7 _ wr => ∃ (i o : Nat) (ds : List Nat), t7 = .int .i64 i ∧ t6 = .int .i64 o ∧ wr.ownsRow w0.heap.size 3 1 v i (ds.map iv) ∧ Ext w0 wr ∧ Hid (LessInv l m ds o i) ∧ i ≤ n1 ∧ o ≤ 1) (fun _ _ t7 _ _ => n1 - (intOf t7).toNat)
  case atStart => exact ⟨0, 0, [], rfl, rfl, World.ownsRow_nil w0 _ _ 1, Ext.refl _, Lib.hid (LessInv.start l m), by omega, by omega⟩
  case round =>
    rename_i wr
    obtain ⟨i, o, ds, rfl, rfl, ho, hE, HP, hi, hc⟩ := hrel
    have hx := HL.out.1.dg i
    have hy := HM.out.1.dg i
    obtain ⟨C, cc, rfl, hnc, hcm, hrd, hlen⟩ := own_form ho
    by_cases hlt : i < n1
    · obtain ⟨ad, rfl, hcell⟩ := hr1.at_ (k := i) (by rw [List.length_map]; have := HN1.out; omega)
      rw [List.getElem_map, ← dg_lt] at hcell
      have U := Lib.hid (fun hg => HP.out.up HL.out.1 hg)
      have D := Lib.hid (fun hg => HP.out.down HM.out.1 hg)
      go_upto_region 6 with fail
      refine wp_region_sure (fun w' => Ext wr w') (by kernel_rfl) (ext_drew _) ?_
      refine wpAnyS_go (i := 0) (some 15) (v := ?_) rfl rfl (by kernel_rfl) (by kernel_rfl) (by kernel_rfl) (fun _ _ _ h => h) (.inl ⟨by rfl, fun w hS => ?_⟩) ?_
      rotate_left
      · (try go_simp)
        refine ⟨?_, hS⟩
        with_reducible rfl
      simp only [Act.put, List.setIfInBounds_toArray, List.set_cons_zero, List.set_cons_succ]
      refine wpAnyS_go (i := 1) (some 16) (v := ?_) rfl rfl (by kernel_rfl) (by kernel_rfl) (by kernel_rfl) (fun _ _ _ h => h) (.inl ⟨by rfl, fun w hS => ?_⟩) ?_
      rotate_left
      · (try go_simp)
        refine ⟨?_, hS⟩
        with_reducible rfl
      simp only [Act.put, List.setIfInBounds_toArray, List.set_cons_zero, List.set_cons_succ]
      refine wpAnyS_go (i := 2) (some 17) (v := ?_) rfl rfl (by kernel_rfl) (by kernel_rfl) (by kernel_rfl) (fun _ _ _ h => h) (.inl ⟨by rfl, fun w hS => ?_⟩) ?_
      rotate_left
      · (try go_simp)
        refine ⟨?_, hS⟩
        with_reducible rfl
      simp only [Act.put, List.setIfInBounds_toArray, List.set_cons_zero, List.set_cons_succ]
      refine wpAnyS_go (i := 3) (some 18) (v := ?_) rfl rfl (by kernel_rfl) (by kernel_rfl) (by kernel_rfl) (fun _ _ _ h => h) (.inl ⟨by rfl, fun w hS => ?_⟩) ?_
      rotate_left
      · have e1 := (hE.trans hS).cell hcell
        (try go_simp)
        refine ⟨?_, hS⟩
        with_reducible rfl
      simp only [Act.put, List.setIfInBounds_toArray, List.set_cons_zero, List.set_cons_succ]
      refine wpAnyS_go (i := 4) (some 19) (v := ?_) rfl rfl (by kernel_rfl) (by kernel_rfl) (by kernel_rfl) (fun _ _ _ h => h) (.inl ⟨by rfl, fun w hS => ?_⟩) ?_
      rotate_left
      · (try go_simp)
        refine ⟨?_, hS⟩
        with_reducible rfl
      simp only [Act.put, List.setIfInBounds_toArray, List.set_cons_zero, List.set_cons_succ]
      refine wpAnyS_go (i := 5) (some 20) (v := ?_) rfl rfl (by kernel_rfl) (by kernel_rfl) (by kernel_rfl) (fun _ _ _ h => h) (.inl ⟨by rfl, fun w hS => ?_⟩) ?_
      rotate_left
      · (try go_simp)
        refine ⟨?_, hS⟩
        with_reducible rfl
      simp only [Act.put, List.setIfInBounds_toArray, List.set_cons_zero, List.set_cons_succ]
      refine wpAnyS_go (i := 6) (some 21) (v := ?_) rfl rfl (by kernel_rfl) (by kernel_rfl) (by kernel_rfl) (fun _ _ _ h => h) (.inl ⟨by rfl, fun w hS => ?_⟩) ?_
      rotate_left
      · go_simp
        change Calls _ _ _ _ _
        refine Calls.mono (digit_any B n2 c2 m i _ HN2.out (hr2.ext (hE.trans hS)) (by omega) (by omega)) ?_
        rintro e w' ⟨rfl, rfl⟩
        refine ⟨?_, hS⟩
        with_reducible rfl
      simp only [Act.put, List.setIfInBounds_toArray, List.set_cons_zero, List.set_cons_succ]
      refine wpAnyS_go (i := 7) (some 22) (v := ?_) rfl rfl (by kernel_rfl) (by kernel_rfl) (by kernel_rfl) (fun _ _ _ h => h) (.inl ⟨by rfl, fun w hS => ?_⟩) ?_
      rotate_left
      · (try go_simp)
        refine ⟨?_, hS⟩
        with_reducible rfl
      simp only [Act.put, List.setIfInBounds_toArray, List.set_cons_zero, List.set_cons_succ]
      refine wpAnyS_go (i := 8) (some 23) (v := ?_) rfl rfl (by kernel_rfl) (by kernel_rfl) (by kernel_rfl) (fun _ _ _ h => h) (.inl ⟨by rfl, fun w hS => ?_⟩) ?_
      rotate_left
      · (try go_simp)
        refine ⟨?_, hS⟩
        with_reducible rfl
      simp only [Act.put, List.setIfInBounds_toArray, List.set_cons_zero, List.set_cons_succ]
      refine wpAnyS_go (i := 9) (some 24) (v := ?_) rfl rfl (by kernel_rfl) (by kernel_rfl) (by kernel_rfl) (fun _ _ _ h => h) (.inl ⟨by rfl, fun w hS => ?_⟩) ?_
      rotate_left
      · (try go_simp)
        refine ⟨?_, hS⟩
        with_reducible rfl
      simp only [Act.put, List.setIfInBounds_toArray, List.set_cons_zero, List.set_cons_succ]
      refine wpAnyS_go (i := 10) (some 8) (v := ?_) rfl rfl (by kernel_rfl) (by kernel_rfl) (by kernel_rfl) (fun _ _ _ h => h) (.inl ⟨by rfl, fun w hS => ?_⟩) ?_
      rotate_left
      · (try go_simp)
        refine ⟨?_, hS⟩
        with_reducible rfl
      simp only [Act.put, List.setIfInBounds_toArray, List.set_cons_zero, List.set_cons_succ]
      refine wpAnyS_done (by kernel_rfl) fun w hS => ?_
      replace ho := own_ext ho hS
      replace hE := hE.trans hS
      clear hS hcell
      have hw1 : IntKind.i64.wrap ((dg l i : Int) - (dg m i : Int)) = (dg l i : Int) - (dg m i : Int) := IntWalk.i64_in _ (by omega)
      have hw2 : IntKind.i64.wrap ((dg l i : Int) - (dg m i : Int) - (o : Int)) = (dg l i : Int) - (dg m i : Int) - (o : Int) := IntWalk.i64_in _ (by omega)
      rw [hw1, hw2]
      clear hw1 hw2
      by_cases hg : dg m i + o ≤ dg l i
      · obtain ⟨t, ht, hte⟩ : ∃ t : Nat, (dg l i : Int) - (dg m i : Int) - (o : Int) = (t : Int) ∧ t = dg l i - dg m i - o := ⟨_, by omega, rfl⟩
        rw [ht]
        have HU := Lib.hid (U.out hg)
        rw [← hte] at HU
        have k1 : ¬ (t : Int) < 0 := by omega
        have k2 : t < 16777216 := by omega
        clear ht hte hg U D
        go_wp2_with (at_builtin; refine wpList_app rfl (.tmp 29) (.tmp 31) 28 3 8 rfl introw w0.heap.size _ i _ rfl (own_ext ho (ext_alloc _ _)) _ 1 1 [iv t] rfl rfl (rd_new_one _ _ _) (one_map_iv [_]) (by simp [maxLen]; omega) (by omega) (hE.trans (ext_alloc _ _)).size ?_; intro A2 c2' w2 ho2 hc2 hm2 hr2' hE2 hg2; have hEn := hE2 w0 (hE.trans (ext_alloc _ _)) (Nat.le_refl _); clear hE2 hg2 hr2')
        refine ⟨⟨i + 1, 0, ds ++ [t], by go_num, rfl, by rw [List.map_append]; exact ho2, hEn, HU, by omega, by omega⟩, by simp [intOf]; omega⟩
      · obtain ⟨t, ht, hte⟩ : ∃ t : Nat, (dg l i : Int) - (dg m i : Int) - (o : Int) = (t : Int) - 16777216 ∧ t = dg l i + 16777216 - dg m i - o := ⟨_, by omega, rfl⟩
        rw [ht]
        have HU := Lib.hid (D.out (by omega))
        rw [← hte] at HU
        have k1 : (t : Int) - 16777216 < 0 := by omega
        have k2 : t < 16777216 := by omega
        have k3 : IntKind.i64.wrap ((t : Int) - 16777216 + 16777216) = (t : Int) := by rw [IntWalk.i64_in _ (by omega)]; omega
        clear ht hte hg U D
        go_wp2_with (at_builtin; refine wpList_app rfl (.tmp 29) (.tmp 31) 28 3 8 rfl introw w0.heap.size _ i _ rfl (own_ext ho (ext_alloc _ _)) _ 1 1 [iv t] rfl rfl (rd_new_one _ _ _) (one_map_iv [_]) (by simp [maxLen]; omega) (by omega) (hE.trans (ext_alloc _ _)).size ?_; intro A2 c2' w2 ho2 hc2 hm2 hr2' hE2 hg2; have hEn := hE2 w0 (hE.trans (ext_alloc _ _)) (Nat.le_refl _); clear hE2 hg2 hr2')
        refine ⟨⟨i + 1, 1, ds ++ [t], by go_num, rfl, by rw [List.map_append]; exact ho2, hEn, HU, by omega, by omega⟩, by simp [intOf]; omega⟩
    · have hin : i = n1 := by omega
      subst hin
      have hln := Canon.le_len HL.out HM.out HLE.out
      have hdv : Hid (dval ds = dval l - dval m) := Lib.hid (by
        have hq := HP.out
        rw [← HN1.out] at hq
        exact hq.done hln HLE.out)
      clear hln
      go_wp2_with (go_at_call 80; with_reducible refine (cut_any C i cc ds _ HP.out.len HP.out.small hrd (by omega) hnc).mono ?_; rintro e w' ⟨r, rfl, hri, hrv, hrc, rfl⟩)
      go_ret
      exact ⟨_, rfl, Num.mk (by rw [List.length_take, HP.out.len, Nat.min_eq_left hri]) (by omega) (by rw [List.map_take]; exact hrd.take r) hrc (by rw [hrv, hdv.out]) hri, hE⟩
end Go.Proofs.Ytndohjgfjbopnaa
