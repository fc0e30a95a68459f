/-
  The walk of the statement WalScans.
-/
import Derived.Test.YtkoineooofmehaaWalUp
import Derived.Test.YtkoineooofmehaaWalR
import Derived.Test.YtkoineooofmehaaArgs
set_option linter.unusedSimpArgs false
set_option linter.unusedVariables false
namespace Go.Proofs.Ytkoineooofmehaa
open Go.RowKit Go.Cv Go.Cv.Wal

set_option maxHeartbeats 800000 in
theorem walScans_walk (A : Option Addr) (n cap : Nat) (l : List UInt8) (w : World) (hB : ArgB w A n cap l) (hm : cap ≤ 1048576) :
    Calls Try.prog 4 #[.slice A n cap] w fun e w' => e = .returned (.bool true) ∧ Ext w w' := by
  obtain ⟨hl, hle, hmax, hr⟩ := hB
  go_enter Try.func4, Try.ntmps4
  go_wp2_with fail
  refine (up_any w).mono ?_
  rintro e w1 ⟨rfl, hx1⟩
  go_wp2_with (at_builtin; refine wpList_appb0 rfl (.tmp 13) (.tmp 14) 22 5 rfl u8row rfl A n cap l rfl hl (hr.ext hx1) (by omega) ?_; intro A2 c2 w2 ho2 hc2 hm2 hr2 hx2)
  refine (scan_any A2 n c2 l w2 hl hc2 hr2 (by omega)).mono ?_
  rintro e w3 ⟨A3, c3, vs3, R, u, hs3, rfl, hx3, ho3, hc3, hm3, hr3, ha3⟩
  go_wp2_with fail
  refine (rscan_any A n cap l w3 hl hle hmax (((hr.ext hx1).ext hx2).ext hx3) (by omega)).mono ?_
  rintro e w4 ⟨A4, c4, vs4, R', u', hs4, rfl, hx4, ho4, hc4, hm4, hr4, ha4⟩
  obtain ⟨rfl, rfl⟩ := Scans.unique hs4 hs3
  have hcnt := hs3.count
  rw [hl] at hcnt
  go_wp2_with fail
  refine (same_any A3 A4 R'.length R'.length c3 c4 vs3 vs4 R' R' _ _ w4 rfl rfl (hr3.ext hx4) hr4 (ha3.extF hx4) ha4 (by omega) (by omega)).mono ?_
  rintro _ _ ⟨rfl, m, rfl⟩
  have hx5 : Ext w4 (w4.drewN m) := (Ext.refl w4).drewN m
  have ho2' := own_ext ho2 ((hx3.trans hx4).trans hx5)
  have hr3' := (hr3.ext hx4).ext hx5
  have hr4' := hr4.ext hx5
  have ha3' := (ha3.extF hx4).extF hx5
  have ha4' : AllB (InA A) (w4.drewN m) vs4 R' := ha4.ext hx5 fun _ h => h
  have hxw5 : Ext w (w4.drewN m) := (((hx1.trans hx2).trans hx3).trans hx4).trans hx5
  have hb2 : ∀ g, (Value.slice A2 n c2).ownBlock = some g → w.heap.size ≤ g ∧ g < w2.heap.size := fun g hg => by
    have := ho2.lt g hg
    have := hx1.size
    omega
  have hsz : w2.heap.size ≤ w3.heap.size := hx3.size
  generalize w4.drewN m = w5 at *
  clear hx5 hr3 hr4 ha3 ha4
  go_wp2_with fail
  go_loopw [10] (fun i wr => ∃ (k : Nat) (l' : List UInt8), k ≤ n ∧ i = .int .i64 k ∧ l'.length = n ∧ wr.ownsRow w1.heap.size 5 1 (.slice A2 n c2) n (l'.map bv) ∧ w5.grownBy wr (Value.slice A2 n c2).ownBlock) (fun i _ => n - (intOf i).toNat)
  case atStart => exact ⟨0, l, Nat.zero_le _, rfl, hl, ho2', World.grownBy.refl _ _⟩
  case round =>
    obtain ⟨k, l', hk, rfl, hl', how, hgw⟩ := hrel
    by_cases hlt : k < n
    · obtain ⟨g, cap', hv, _, _⟩ := how.form (by omega)
      injection hv with hv _ _
      subst hv
      have hlk : k < l'.length := by omega
      have hcell : wr.cell? ⟨g, k, none⟩ = some (.int .u8 (n8 l'[k])) := by
        rw [how.cellAt k (by omega), List.getElem?_map, List.getElem?_eq_getElem hlk]; rfl
      have hfr : wr.frozen? ⟨g, k, none⟩ = false := how.frozenAt k
      have hst := how.stored k (.int .u8 (n8 (l'[k] ^^^ 255)))
      have Hl := Lib.hid hl'
      clear hl'
      go_wp2_with fail
      go_roundw
      case rel =>
        refine ⟨k + 1, l'.set k (l'[k] ^^^ 255), by omega, by go_num, by rw [List.length_set]; exact Hl.out, ?_, hgw.trans hst.2⟩
        rw [List.map_set]
        exact hst.1
      case measure => simp [intOf]; omega
    · have hne : ∀ ad, ad.block < w.heap.size ∨ w2.heap.size ≤ ad.block → some (Addr.block ad) ≠ (Value.slice A2 n c2).ownBlock := fun ad had he => by
        have := hb2 ad.block he.symm
        omega
      have hx5w : Ext w wr := Below.grown hxw5 hgw hxw5.size fun g hg => (hb2 g hg).1
      have hA3 : Rd wr A3 vs3 := hr3'.grown hgw fun ad e => hne ad (.inr (own_fresh ho3 ad e))
      have hA4 : Rd wr A4 vs4 := hr4'.grown hgw fun ad e => hne ad (.inr (Nat.le_trans hsz (own_fresh ho4 ad e)))
      have hF3 : AllB (fun _ _ => True) wr vs3 R' := ha3'.imp_ (fun _ _ h hf => h.grown hgw fun ad e => hne ad (.inr (hf ad e).1)) fun _ _ => trivial
      have hF4 : AllB (fun _ _ => True) wr vs4 R' := by
        rcases Nat.eq_zero_or_pos n with h0 | h0
        · have h1 : l = [] := List.eq_nil_of_length_eq_zero (by omega)
          have h2 := hs3
          rw [h1] at h2
          obtain ⟨h3, _⟩ := Scans.unique h2 scans_empty
          have h4 := ha4'.len
          rw [h3] at h4 ⊢
          have h5 : vs4 = [] := List.eq_nil_of_length_eq_zero h4
          rw [h5]; trivial
        · obtain ⟨a0, hA, hlt0⟩ := hr.some_ (by simp; omega)
          refine ha4'.imp_ (fun _ _ h hf => h.grown hgw fun ad e => hne ad (.inl ?_)) fun _ _ => trivial
          obtain ⟨a1, h1, h2⟩ := hf ad e
          rw [hA] at h1
          injection h1 with h1
          rw [h2, ← h1]; exact hlt0
      go_wp2_with fail
      refine (same_any A3 A4 R'.length R'.length c3 c4 vs3 vs4 R' R' _ _ wr rfl rfl hA3 hA4 hF3 hF4 (by omega) (by omega)).mono ?_
      rintro _ _ ⟨rfl, m', rfl⟩
      go_wp2
      go_ret
      exact ⟨rfl, hx5w.drewN m'⟩
end Go.Proofs.Ytkoineooofmehaa
