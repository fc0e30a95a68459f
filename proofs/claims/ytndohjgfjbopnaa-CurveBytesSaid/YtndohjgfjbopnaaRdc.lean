/-
  The document's answer of layer 7: the point of 32 bytes.
-/
import Derived.Test.YtndohjgfjbopnaaDec
import Derived.Test.YtndohjgfjbopnaaAnsE
import Derived.Test.YtndohjgfjbopnaaGiv
set_option linter.unusedSimpArgs false
set_option linter.unusedVariables false
namespace Go.Cv
open Go.RowKit Go.Cv.Pr Go.Cv.Grp
theorem top_odd (b : UInt8) (h : (128 : Int) ≤ n8 b) : b - 128 = b &&& 127 ∧ (b >>> 7 == 1) = true := by
  have h1 : 128 ≤ b.toNat := by unfold n8 at h; omega
  have h2 := b.toNat_lt
  refine ⟨?_, ?_⟩
  · apply UInt8.toNat_inj.1
    have e1 : (128 : UInt8).toNat = 128 := rfl
    rw [UInt8.toNat_and, UInt8.toNat_sub, e1]
    show _ = b.toNat &&& (2 ^ 7 - 1)
    rw [Nat.and_two_pow_sub_one_eq_mod]
    omega
  · rw [beq_iff_eq]
    apply UInt8.toNat_inj.1
    rw [show (b >>> 7).toNat = b.toNat / 2 ^ 7 from toNat_shr_u8 b 7 (by decide)]
    show _ = 1
    omega
theorem top_even (b : UInt8) (h : ¬ (128 : Int) ≤ n8 b) : b = b &&& 127 ∧ (b >>> 7 == 1) = false := by
  have h1 : b.toNat < 128 := by unfold n8 at h; omega
  refine ⟨?_, ?_⟩
  · apply UInt8.toNat_inj.1
    rw [UInt8.toNat_and]
    show _ = b.toNat &&& (2 ^ 7 - 1)
    rw [Nat.and_two_pow_sub_one_eq_mod]
    omega
  · rw [beq_eq_false_iff_ne]
    intro e
    have h2 := congrArg UInt8.toNat e
    rw [show (b >>> 7).toNat = b.toNat / 2 ^ 7 from toNat_shr_u8 b 7 (by decide)] at h2
    have : (1 : UInt8).toNat = 1 := rfl
    omega
theorem decX_with (b : Nat → UInt8) (L : Nat) (hL : L = pp) : decX b = if V (decG b) < L then (if okF (decU (decY b)) = true then (if (b 31 >>> 7 == 1) = true then (if rtF (decU (decY b)) = 0 then none else some (0 - rtF (decU (decY b)))) else some (rtF (decU (decY b)))) else none) else none := by
  subst hL
  rfl
end Go.Cv
namespace Go.Proofs.Ytndohjgfjbopnaa
open Go.RowKit Go.Cv Go.Cv.Pr Go.Cv.Grp Go.Cv.Dig
theorem NF.len {w : World} {A : Option Addr} {n c : Nat} {x : F7} (h : NF w (.slice A n c) x) : n = 0 ↔ x = 0 := by
  obtain ⟨A', n', c', l, e, h1, h2, hr, hc, hv, hn⟩ := h
  injection e with e1 e2 e3
  subst e2
  constructor
  · intro h0
    have : l = [] := List.length_eq_zero_iff.1 (by omega)
    subst this
    exact Fin.ext hv.symm
  · intro h0
    rw [h0] at hv
    have := hc.zero hv
    rw [this] at h1
    exact h1.symm
/-- What Decode of the answer tells. -/
noncomputable def rdV (d : Option F7) (y : F7) : Array Value := match d with | none => #[.agg (pc (fun _ => 0) (fun _ => 0)), .bool false] | some x => #[.agg (pc (fb x) (fb y)), .bool true]
theorem rdV_none (y : F7) : rdV none y = #[.agg (pc (fun _ => 0) (fun _ => 0)), .bool false] := rfl
theorem rdV_some (x y : F7) : rdV (some x) y = #[.agg (pc (fb x) (fb y)), .bool true] := rfl
def plan_53_6 : List Plan := [⟨[], []⟩, ⟨[0], [(22, 0)]⟩, ⟨[0, 1], []⟩]
def plan_53_9 : List Plan := [⟨[], []⟩, ⟨[0], [(38, 0)]⟩, ⟨[0, 1], []⟩]
def plan_53_12 : List Plan := [⟨[], []⟩, ⟨[0], [(42, 0)]⟩, ⟨[], []⟩, ⟨[0, 1, 2], [(44, 2)]⟩, ⟨[0, 1, 2, 3], [(43, 1), (45, 3)]⟩, ⟨[0, 1, 2, 3, 4], [(46, 4)]⟩, ⟨[0, 1, 2, 3, 4, 5], []⟩]
set_option maxRecDepth 20000 in
set_option maxHeartbeats 8000000 in
theorem rdec_any (b : Nat → UInt8) (w : World) :
    Calls Try.prog 53 #[.agg (bcells b)] w fun e w' => e = .returned (.tuple (rdV (decX b) (decY b))) ∧ Ext w w' := by
  have hG := low_p (decG b)
  obtain ⟨g, hg⟩ : ∃ g, g = decG b := ⟨_, rfl⟩
  obtain ⟨y, hy⟩ : ∃ y, y = decY b := ⟨_, rfl⟩
  obtain ⟨U, hU⟩ : ∃ U, U = decU y := ⟨_, rfl⟩
  have hyg : y = tf (V g) := by rw [hy, hg]; rfl
  obtain ⟨d, hd⟩ : ∃ d, d = decX b := ⟨_, rfl⟩
  obtain ⟨L, hL⟩ : ∃ L, L = pp := ⟨_, rfl⟩
  rw [← hd, ← hy]
  rw [decX_with b L hL, ← hg, ← hy, ← hU] at hd
  have hpn : ∀ w, Calls Try.prog 56 #[] w fun e w' => ∃ v, e = .returned v ∧ Num w' v L 11 ∧ Ext w w' := by rw [hL]; exact p_num
  have hyv : V g < L → y.val = V g := fun h => by rw [hyg]; exact Nat.mod_eq_of_lt (by rw [← hL]; exact h)
  have hX : ∀ {w : World} {v1 : Value}, NF w v1 y → Calls Try.prog 75 #[v1] w fun e w' => ∃ v, e = .returned (.tuple #[v, .bool (okF U)]) ∧ (okF U = true → NF w' v (rtF U)) ∧ Ext w w' := fun h => by rw [hU]; exact nxof h
  have hg' : g = updb b 31 (b 31 &&& 127) := hg
  clear hg hU hy hG hL
  replace hg' := Lib.hid hg'
  replace hd := Lib.hid hd
  replace hyg := Lib.hid hyg
  go_enter Try.func53, Try.ntmps53
  go_upto_region 1 with fail
  obtain ⟨E0, hE0⟩ : ∃ W, W = w.alloc (.cells (bcells b) 22) := ⟨_, rfl⟩
  obtain ⟨E1, hE1⟩ : ∃ W, W = E0.alloc (.cells (pc (fun _ => 0) (fun _ => 0)) 43) := ⟨_, rfl⟩
  rw [← hE0, ← hE1]
  have s0 : E0.heap.size = w.heap.size + 1 := by rw [hE0]; exact Array.size_push _
  have x0 : Ext w E0 := by rw [hE0]; exact ext_alloc _ _
  have s1 : E1.heap.size = w.heap.size + 1 + 1 := by rw [hE1, ← s0]; exact Array.size_push _
  have x1 : Ext E0 E1 := by rw [hE1]; exact ext_alloc _ _
  have R_n1 := RV.newB w b 22
  rw [← hE0] at R_n1
  replace R_n1 := R_n1.ext x1
  have R_r := RV.newP E0 (fun _ => 0) (fun _ => 0) 43
  rw [← hE1] at R_r
  rw [s0] at R_r
  obtain ⟨n1, hb0⟩ : ∃ b, b = w.heap.size := ⟨_, rfl⟩
  obtain ⟨r, hb1⟩ : ∃ b, b = w.heap.size + 1 := ⟨_, rfl⟩
  rw [← hb1] at R_r
  rw [← hb0] at R_n1
  rw [← hb1, ← hb0]
  have hx : Ext w E1 := ((Ext.refl w).trans x0).trans x1
  have lt_n1 : n1 < E1.heap.size := R_n1.lt
  have bs_n1 : w.heap.size ≤ n1 := by omega
  have lt_r : r < E1.heap.size := R_r.lt
  have bs_r : w.heap.size ≤ r := by omega
  have ne_n1_r : n1 ≠ r := by omega
  clear hb0 s0 x0 hE0 hb1 s1 x1 hE1
  have e1 := R_n1.byte (i := 31) (by decide)
  have e3 := R_n1.fro 31
  by_cases ht : (128 : Int) ≤ n8 (b 31)
  · obtain ⟨hm, ho⟩ := top_odd _ ht
    go_upto_region 4 with fail
    try rw [hm]
    obtain ⟨W4, hW4⟩ : ∃ W4, W4 = E1.setCell ⟨n1, 31, none⟩ (.int .u8 (n8 (b 31 &&& 127))) := ⟨_, rfl⟩
    rw [← hW4]
    have hk : Keep [n1] E1 W4 := by rw [hW4]; exact Keep.setCell _ ⟨n1, 31, none⟩ _
    have R5 := R_n1.set 31 (b 31 &&& 127)
    rw [← hW4, ← hg'.out] at R5
    clear R_n1 e1 e3
    have R_n1 : RV W4 n1 22 (fun u => u = .agg (bcells g)) := R5
    clear R5
    replace R_r := R_r.keep hk (by simp [ne_n1_r, Ne.symm ne_n1_r])
    replace hx := Ext.keep_ hx hk (by simpa using bs_n1)
    clear hW4 hm ht
    replace lt_n1 := Nat.lt_of_lt_of_le lt_n1 hk.size
    replace lt_r := Nat.lt_of_lt_of_le lt_r hk.size
    clear hk hg'
    replace ho := Lib.hid ho
    by_cases hlt : V g < L
    rotate_left
    · skip
      have hdd : Hid (d = none) := Lib.hid (by rw [hd.out, if_neg hlt])
      go_upto_region 6 with (first | (go_at_call 37; with_reducible refine (of_num n1 g _ R_n1).mono ?_; rintro e w1 ⟨v1, rfl, hv1, hx1⟩) | (go_at_call 56; with_reducible refine (hpn w1).mono ?_; rintro e w2 ⟨v2, rfl, hv2, hx2⟩) | (go_at_call 36; with_reducible refine (cmp_sign w2 v1 v2 _ _ (hv1.ext hx2) hv2).mono ?_; rintro e w3 ⟨c3, rfl, hc3, hx3⟩; have hc4 : 0 ≤ c3 := by unfold cmpIs at hc3; omega))
      have hx123 := hx1.trans (hx2.trans hx3)
      clear hx1 hx2 hx3 hv1 hv2 hc3 hc4
      replace R_n1 := R_n1.ext hx123
      replace R_r := R_r.ext hx123
      replace lt_n1 := Nat.lt_of_lt_of_le lt_n1 hx123.size
      replace lt_r := Nat.lt_of_lt_of_le lt_r hx123.size
      replace hx := hx.trans hx123
      have hok : TrsOk [r] w3.heap.size ([⟨none, r, 43, some 1, fun cs => (Value.agg (List.toArray cs)) = .agg (pc (fun _ => 0) (fun _ => 0)), fun cs => (Value.agg (List.toArray cs)) = .agg (pc (fun _ => 0) (fun _ => 0))⟩] : List Trk) := ⟨by simp [R_r.lt], by simp, by simp, by simp⟩
      have noi_r : NoI w3 r := R_r.noP
      refine wp_region_text (InvN [r] (fun j u => match j with | 0 => u = .agg (pc (fun _ => 0) (fun _ => 0)) | 2 => u = .bool false | _ => True) (fun _ => none) (fun _ => none) [⟨none, r, 43, some 1, fun cs => (Value.agg (List.toArray cs)) = .agg (pc (fun _ => 0) (fun _ => 0)), fun cs => (Value.agg (List.toArray cs)) = .agg (pc (fun _ => 0) (fun _ => 0))⟩] w3) plan_53_6 [(22, 0), (3, 2)] 47 rfl (by kernel_rfl) (InvN.of (Inv.start0 hok (by
          simp only [List.forall_mem_cons, List.not_mem_nil, false_implies, implies_true, and_true]
          exact fun _ => R_r))) ⟨?_, ?_, ?_, trivial⟩ ?_
      · intro L v w hL hD hC hI
        refine ⟨fun _ => ?_, fun hw => by cases hw⟩
        refine hI.val0 hL (by simp) rfl rfl ?_
        rw [show readsOf plan_53_6 0 = [] from rfl]
        exact give_zeroP rfl ⟨rfl, Ext.refl _⟩
      · intro L v w hL hD hC hI
        refine ⟨fun _ => ?_, fun hw => by cases hw⟩
        have h0 : (v 0) = .agg (pc (fun _ => 0) (fun _ => 0)) := hI.inv.val 0 (hD 0 (by decide))
        refine InvN.store_step hok hI hL ⟨none, r, 43, some 1, fun cs => (Value.agg (List.toArray cs)) = .agg (pc (fun _ => 0) (fun _ => 0)), fun cs => (Value.agg (List.toArray cs)) = .agg (pc (fun _ => 0) (fun _ => 0))⟩ (by simp) rfl (by simp) (by intro k hk; cases hk) rfl rfl (fun cs h => by rw [pcL_of h]; exact noI_pc _ _) ?_
        intro n cs hb hR hold
        change n = r at hb
        subst hb
        rw [show readsOf plan_53_6 1 = [(22, 0)] from rfl]
        exact st_P hR (by rw [pcL_of hold]; exact pcL_len _ _) _ _ rfl rfl h0 fun w' cs' hr he hk => ⟨trivial, hk, cs', hr, he⟩
      · intro L v w hL hD hC hI
        refine ⟨fun _ => ?_, fun hw => by cases hw⟩
        refine hI.val0 hL (by simp) rfl rfl ?_
        rw [show readsOf plan_53_6 2 = [] from rfl]
        first | exact ⟨rfl, Ext.refl _⟩ | (go_simp; exact ⟨rfl, Ext.refl _⟩)
      intro L v1 W1 hL hI
      have N_r : RV W1 r 43 (fun u => u = .agg (pc (fun _ => 0) (fun _ => 0))) := hI.inv.row_new ⟨none, r, 43, some 1, fun cs => (Value.agg (List.toArray cs)) = .agg (pc (fun _ => 0) (fun _ => 0)), fun cs => (Value.agg (List.toArray cs)) = .agg (pc (fun _ => 0) (fun _ => 0))⟩ (by simp) rfl 1 rfl (hL 1 (by decide))
      replace R_n1 := R_n1.keep hI.inv.keep (by simp [ne_n1_r, Ne.symm ne_n1_r])
      clear noi_r
      clear R_r
      have R_r := N_r
      clear N_r
      replace lt_n1 := Nat.lt_of_lt_of_le lt_n1 hI.inv.keep.size
      replace lt_r := Nat.lt_of_lt_of_le lt_r hI.inv.keep.size
      have hx' : Ext w W1 := Ext.keep_ hx hI.inv.keep (by simp only [List.forall_mem_cons, List.not_mem_nil, false_implies, implies_true, and_true]; exact bs_r)
      have hs_3_6 : (v1 2) = .bool false := hI.inv.val 2 (hL 2 (by decide))
      clear hx hI hL hok L
      have hx := hx'
      clear hx'
      simp only [putP, Act.put, List.setIfInBounds_toArray, List.set_cons_zero, List.set_cons_succ, hs_3_6]
      go_wp2
      refine bodyPost_ret (results_P2 rfl _ R_r rfl) rfl ?_
      refine ⟨?_, hx⟩
      rw [hdd.out, rdV_none]
      rfl
    · have hdl := hd.out
      rw [if_pos hlt] at hdl
      replace hd := Lib.hid hdl
      clear hdl
      go_upto_region 7 with (first | (go_at_call 37; with_reducible refine (of_num n1 g _ R_n1).mono ?_; rintro e w1 ⟨v1, rfl, hv1, hx1⟩) | (go_at_call 56; with_reducible refine (hpn w1).mono ?_; rintro e w2 ⟨v2, rfl, hv2, hx2⟩) | (go_at_call 36; with_reducible refine (cmp_sign w2 v1 v2 _ _ (hv1.ext hx2) hv2).mono ?_; rintro e w3 ⟨c3, rfl, hc3, hx3⟩; have hc4 : ¬ 0 ≤ c3 := by unfold cmpIs at hc3; omega))
      have hn5 : NF w3 v1 y := by
        unfold NF
        rw [hyv hlt]
        exact hv1.ext (hx2.trans hx3)
      have hx123 := hx1.trans (hx2.trans hx3)
      clear hx1 hx2 hx3 hv1 hv2 hc3 hc4 hyv hpn
      replace R_n1 := R_n1.ext hx123
      replace R_r := R_r.ext hx123
      replace lt_n1 := Nat.lt_of_lt_of_le lt_n1 hx123.size
      replace lt_r := Nat.lt_of_lt_of_le lt_r hx123.size
      replace hx := hx.trans hx123
      go_upto_region 8 with (go_at_call 75; with_reducible refine (hX hn5).mono ?_; rintro e w7 ⟨v7, rfl, hv7, hx7⟩)
      replace R_n1 := R_n1.ext hx7
      replace R_r := R_r.ext hx7
      replace lt_n1 := Nat.lt_of_lt_of_le lt_n1 hx7.size
      replace lt_r := Nat.lt_of_lt_of_le lt_r hx7.size
      replace hn5 := hn5.ext hx7
      replace hx := hx.trans hx7
      clear hX
      cases hok : okF U
      · skip
        have hdd : Hid (d = none) := Lib.hid (by rw [hd.out, if_neg (by rw [hok]; decide)])
        clear hok
        go_upto_region 9 with fail
        have hok : TrsOk [r] w7.heap.size ([⟨none, r, 43, some 1, fun cs => (Value.agg (List.toArray cs)) = .agg (pc (fun _ => 0) (fun _ => 0)), fun cs => (Value.agg (List.toArray cs)) = .agg (pc (fun _ => 0) (fun _ => 0))⟩] : List Trk) := ⟨by simp [R_r.lt], by simp, by simp, by simp⟩
        have noi_r : NoI w7 r := R_r.noP
        refine wp_region_text (InvN [r] (fun j u => match j with | 0 => u = .agg (pc (fun _ => 0) (fun _ => 0)) | 2 => u = .bool false | _ => True) (fun _ => none) (fun _ => none) [⟨none, r, 43, some 1, fun cs => (Value.agg (List.toArray cs)) = .agg (pc (fun _ => 0) (fun _ => 0)), fun cs => (Value.agg (List.toArray cs)) = .agg (pc (fun _ => 0) (fun _ => 0))⟩] w7) plan_53_9 [(38, 0), (3, 2)] 47 rfl (by kernel_rfl) (InvN.of (Inv.start0 hok (by
            simp only [List.forall_mem_cons, List.not_mem_nil, false_implies, implies_true, and_true]
            exact fun _ => R_r))) ⟨?_, ?_, ?_, trivial⟩ ?_
        · intro L v w hL hD hC hI
          refine ⟨fun _ => ?_, fun hw => by cases hw⟩
          refine hI.val0 hL (by simp) rfl rfl ?_
          rw [show readsOf plan_53_9 0 = [] from rfl]
          exact give_zeroP rfl ⟨rfl, Ext.refl _⟩
        · intro L v w hL hD hC hI
          refine ⟨fun _ => ?_, fun hw => by cases hw⟩
          have h0 : (v 0) = .agg (pc (fun _ => 0) (fun _ => 0)) := hI.inv.val 0 (hD 0 (by decide))
          refine InvN.store_step hok hI hL ⟨none, r, 43, some 1, fun cs => (Value.agg (List.toArray cs)) = .agg (pc (fun _ => 0) (fun _ => 0)), fun cs => (Value.agg (List.toArray cs)) = .agg (pc (fun _ => 0) (fun _ => 0))⟩ (by simp) rfl (by simp) (by intro k hk; cases hk) rfl rfl (fun cs h => by rw [pcL_of h]; exact noI_pc _ _) ?_
          intro n cs hb hR hold
          change n = r at hb
          subst hb
          rw [show readsOf plan_53_9 1 = [(38, 0)] from rfl]
          exact st_P hR (by rw [pcL_of hold]; exact pcL_len _ _) _ _ rfl rfl h0 fun w' cs' hr he hk => ⟨trivial, hk, cs', hr, he⟩
        · intro L v w hL hD hC hI
          refine ⟨fun _ => ?_, fun hw => by cases hw⟩
          refine hI.val0 hL (by simp) rfl rfl ?_
          rw [show readsOf plan_53_9 2 = [] from rfl]
          first | exact ⟨rfl, Ext.refl _⟩ | (go_simp; exact ⟨rfl, Ext.refl _⟩)
        intro L v1 W1 hL hI
        have N_r : RV W1 r 43 (fun u => u = .agg (pc (fun _ => 0) (fun _ => 0))) := hI.inv.row_new ⟨none, r, 43, some 1, fun cs => (Value.agg (List.toArray cs)) = .agg (pc (fun _ => 0) (fun _ => 0)), fun cs => (Value.agg (List.toArray cs)) = .agg (pc (fun _ => 0) (fun _ => 0))⟩ (by simp) rfl 1 rfl (hL 1 (by decide))
        replace R_n1 := R_n1.keep hI.inv.keep (by simp [ne_n1_r, Ne.symm ne_n1_r])
        replace hn5 := hn5.keep hI.inv.keep (by simp [noi_r])
        clear noi_r
        clear R_r
        have R_r := N_r
        clear N_r
        replace lt_n1 := Nat.lt_of_lt_of_le lt_n1 hI.inv.keep.size
        replace lt_r := Nat.lt_of_lt_of_le lt_r hI.inv.keep.size
        have hx' : Ext w W1 := Ext.keep_ hx hI.inv.keep (by simp only [List.forall_mem_cons, List.not_mem_nil, false_implies, implies_true, and_true]; exact bs_r)
        have hs_3_9 : (v1 2) = .bool false := hI.inv.val 2 (hL 2 (by decide))
        clear hx hI hL hok L
        have hx := hx'
        clear hx'
        simp only [putP, Act.put, List.setIfInBounds_toArray, List.set_cons_zero, List.set_cons_succ, hs_3_9]
        go_wp2
        refine bodyPost_ret (results_P2 rfl _ R_r rfl) rfl ?_
        refine ⟨?_, hx⟩
        rw [hdd.out, rdV_none]
        rfl
      · have hn6 := hv7 hok
        have hdl := hd.out
        rw [if_pos hok] at hdl
        clear hd hok hv7
        obtain ⟨A, n, c, rfl⟩ := hn6.sl
        have hlen := hn6.len
        rw [if_pos ho.out] at hdl
        by_cases hz : rtF U = 0
        · skip
          rw [if_pos hz] at hdl
          have hn0 : n = 0 := hlen.2 hz
          replace hdl := Lib.hid hdl
          subst hn0
          clear hlen hz
          go_upto_region 9 with fail
          have hok : TrsOk [r] w7.heap.size ([⟨none, r, 43, some 1, fun cs => (Value.agg (List.toArray cs)) = .agg (pc (fun _ => 0) (fun _ => 0)), fun cs => (Value.agg (List.toArray cs)) = .agg (pc (fun _ => 0) (fun _ => 0))⟩] : List Trk) := ⟨by simp [R_r.lt], by simp, by simp, by simp⟩
          have noi_r : NoI w7 r := R_r.noP
          refine wp_region_text (InvN [r] (fun j u => match j with | 0 => u = .agg (pc (fun _ => 0) (fun _ => 0)) | 2 => u = .bool false | _ => True) (fun _ => none) (fun _ => none) [⟨none, r, 43, some 1, fun cs => (Value.agg (List.toArray cs)) = .agg (pc (fun _ => 0) (fun _ => 0)), fun cs => (Value.agg (List.toArray cs)) = .agg (pc (fun _ => 0) (fun _ => 0))⟩] w7) plan_53_9 [(38, 0), (3, 2)] 47 rfl (by kernel_rfl) (InvN.of (Inv.start0 hok (by
              simp only [List.forall_mem_cons, List.not_mem_nil, false_implies, implies_true, and_true]
              exact fun _ => R_r))) ⟨?_, ?_, ?_, trivial⟩ ?_
          · intro L v w hL hD hC hI
            refine ⟨fun _ => ?_, fun hw => by cases hw⟩
            refine hI.val0 hL (by simp) rfl rfl ?_
            rw [show readsOf plan_53_9 0 = [] from rfl]
            exact give_zeroP rfl ⟨rfl, Ext.refl _⟩
          · intro L v w hL hD hC hI
            refine ⟨fun _ => ?_, fun hw => by cases hw⟩
            have h0 : (v 0) = .agg (pc (fun _ => 0) (fun _ => 0)) := hI.inv.val 0 (hD 0 (by decide))
            refine InvN.store_step hok hI hL ⟨none, r, 43, some 1, fun cs => (Value.agg (List.toArray cs)) = .agg (pc (fun _ => 0) (fun _ => 0)), fun cs => (Value.agg (List.toArray cs)) = .agg (pc (fun _ => 0) (fun _ => 0))⟩ (by simp) rfl (by simp) (by intro k hk; cases hk) rfl rfl (fun cs h => by rw [pcL_of h]; exact noI_pc _ _) ?_
            intro n cs hb hR hold
            change n = r at hb
            subst hb
            rw [show readsOf plan_53_9 1 = [(38, 0)] from rfl]
            exact st_P hR (by rw [pcL_of hold]; exact pcL_len _ _) _ _ rfl rfl h0 fun w' cs' hr he hk => ⟨trivial, hk, cs', hr, he⟩
          · intro L v w hL hD hC hI
            refine ⟨fun _ => ?_, fun hw => by cases hw⟩
            refine hI.val0 hL (by simp) rfl rfl ?_
            rw [show readsOf plan_53_9 2 = [] from rfl]
            first | exact ⟨rfl, Ext.refl _⟩ | (go_simp; exact ⟨rfl, Ext.refl _⟩)
          intro L v1 W1 hL hI
          have N_r : RV W1 r 43 (fun u => u = .agg (pc (fun _ => 0) (fun _ => 0))) := hI.inv.row_new ⟨none, r, 43, some 1, fun cs => (Value.agg (List.toArray cs)) = .agg (pc (fun _ => 0) (fun _ => 0)), fun cs => (Value.agg (List.toArray cs)) = .agg (pc (fun _ => 0) (fun _ => 0))⟩ (by simp) rfl 1 rfl (hL 1 (by decide))
          replace R_n1 := R_n1.keep hI.inv.keep (by simp [ne_n1_r, Ne.symm ne_n1_r])
          replace hn5 := hn5.keep hI.inv.keep (by simp [noi_r])
          replace hn6 := hn6.keep hI.inv.keep (by simp [noi_r])
          clear noi_r
          clear R_r
          have R_r := N_r
          clear N_r
          replace lt_n1 := Nat.lt_of_lt_of_le lt_n1 hI.inv.keep.size
          replace lt_r := Nat.lt_of_lt_of_le lt_r hI.inv.keep.size
          have hx' : Ext w W1 := Ext.keep_ hx hI.inv.keep (by simp only [List.forall_mem_cons, List.not_mem_nil, false_implies, implies_true, and_true]; exact bs_r)
          have hs_3_9 : (v1 2) = .bool false := hI.inv.val 2 (hL 2 (by decide))
          clear hx hI hL hok L
          have hx := hx'
          clear hx'
          simp only [putP, Act.put, List.setIfInBounds_toArray, List.set_cons_zero, List.set_cons_succ, hs_3_9]
          go_wp2
          refine bodyPost_ret (results_P2 rfl _ R_r rfl) rfl ?_
          refine ⟨?_, hx⟩
          rw [hdl.out, rdV_none]
          rfl
        · skip
          rw [if_neg hz] at hdl
          have hn0 : ¬ n = 0 := fun h => hz (hlen.1 h)
          have hn0I : ¬ (n : Int) = 0 := by omega
          have hn0b : ((n : Int) == 0) = false := by simpa using hn0
          replace hdl := Lib.hid hdl
          clear hlen hz
          go_upto_region 11 with fail
          clear hn0 hn0I hn0b
          go_upto_region 12 with (go_at_call 24; with_reducible refine (nsub (NF.nil _) hn6).mono ?_; rintro e w11 ⟨v11, rfl, hv11, hx11⟩)
          clear hn6
          have hn6 := hv11
          clear hv11
          replace R_n1 := R_n1.ext hx11
          replace R_r := R_r.ext hx11
          replace lt_n1 := Nat.lt_of_lt_of_le lt_n1 hx11.size
          replace lt_r := Nat.lt_of_lt_of_le lt_r hx11.size
          replace hn5 := hn5.ext hx11
          replace hx := hx.trans hx11
          have hok : TrsOk [r] w11.heap.size ([⟨none, r, 43, some 5, fun cs => (Value.agg (List.toArray cs)) = .agg (pc (fun _ => 0) (fun _ => 0)), fun cs => (Value.agg (List.toArray cs)) = .agg (pc (fb (0 - rtF U)) (fb (y)))⟩] : List Trk) := ⟨by simp [R_r.lt], by simp, by simp, by simp⟩
          have noi_r : NoI w11 r := R_r.noP
          refine wp_region_text (InvN [r] (fun j u => match j with | 1 => u = .agg (bcells (fb (0 - rtF U))) | 3 => u = .agg (bcells (fb (y))) | 4 => u = .agg (pc (fb (0 - rtF U)) (fb (y))) | 6 => u = .bool true | _ => True) (fun j => match j with | 0 => some (0 - rtF U) | 2 => some (y) | _ => none) (fun _ => none) [⟨none, r, 43, some 5, fun cs => (Value.agg (List.toArray cs)) = .agg (pc (fun _ => 0) (fun _ => 0)), fun cs => (Value.agg (List.toArray cs)) = .agg (pc (fb (0 - rtF U)) (fb (y)))⟩] w11) plan_53_12 [(42, 0), (43, 1), (44, 2), (45, 3), (46, 4), (3, 6)] 47 rfl (by kernel_rfl) (InvN.of (Inv.start0 hok (by
              simp only [List.forall_mem_cons, List.not_mem_nil, false_implies, implies_true, and_true]
              exact fun _ => R_r))) ⟨?_, ?_, ?_, ?_, ?_, ?_, ?_, trivial⟩ ?_
          · intro L v w hL hD hC hI
            refine ⟨fun _ => ?_, fun hw => by cases hw⟩
            refine hI.numv _ hL (by simp) rfl rfl (fun _ => trivial) ?_
            rw [show readsOf plan_53_12 0 = [] from rfl]
            exact ⟨hn6.keep hI.inv.keep (by simp [noi_r]), Ext.refl _⟩
          · intro L v w hL hD hC hI
            refine ⟨fun _ => ?_, fun hw => by cases hw⟩
            have h0 : NF w (v 0) (0 - rtF U) := hI.num.n 0 _ (hD 0 (by decide)) rfl
            refine hI.val0 hL (by simp) rfl rfl ?_
            rw [show readsOf plan_53_12 1 = [(42, 0)] from rfl]
            refine give_call _ _ _ _ rfl rfl Try.func17 (by kernel_rfl) (by kernel_rfl) ?_
            refine Calls.mono (nbytes h0) ?_
            rintro e w' ⟨rfl, hx⟩
            exact ⟨_, rfl, rfl, hx⟩
          · intro L v w hL hD hC hI
            refine ⟨fun _ => ?_, fun hw => by cases hw⟩
            refine hI.numv _ hL (by simp) rfl rfl (fun _ => trivial) ?_
            rw [show readsOf plan_53_12 2 = [] from rfl]
            exact ⟨hn5.keep hI.inv.keep (by simp [noi_r]), Ext.refl _⟩
          · intro L v w hL hD hC hI
            refine ⟨fun _ => ?_, fun hw => by cases hw⟩
            have h2 : NF w (v 2) (y) := hI.num.n 2 _ (hD 2 (by decide)) rfl
            refine hI.val0 hL (by simp) rfl rfl ?_
            rw [show readsOf plan_53_12 3 = [(44, 2)] from rfl]
            refine give_call _ _ _ _ rfl rfl Try.func17 (by kernel_rfl) (by kernel_rfl) ?_
            refine Calls.mono (nbytes h2) ?_
            rintro e w' ⟨rfl, hx⟩
            exact ⟨_, rfl, rfl, hx⟩
          · intro L v w hL hD hC hI
            refine ⟨fun _ => ?_, fun hw => by cases hw⟩
            have h1 : (v 1) = .agg (bcells (fb (0 - rtF U))) := hI.inv.val 1 (hD 1 (by decide))
            have h3 : (v 3) = .agg (bcells (fb (y))) := hI.inv.val 3 (hD 3 (by decide))
            refine hI.val0 hL (by simp) rfl rfl ?_
            rw [show readsOf plan_53_12 4 = [(43, 1), (45, 3)] from rfl]
            exact bd_P _ _ rfl h1 h3 fun u hu => ⟨hu, Ext.refl _⟩
          · intro L v w hL hD hC hI
            refine ⟨fun _ => ?_, fun hw => by cases hw⟩
            have h4 : (v 4) = .agg (pc (fb (0 - rtF U)) (fb (y))) := hI.inv.val 4 (hD 4 (by decide))
            refine InvN.store_step hok hI hL ⟨none, r, 43, some 5, fun cs => (Value.agg (List.toArray cs)) = .agg (pc (fun _ => 0) (fun _ => 0)), fun cs => (Value.agg (List.toArray cs)) = .agg (pc (fb (0 - rtF U)) (fb (y)))⟩ (by simp) rfl (by simp) (by intro k hk; cases hk) rfl rfl (fun cs h => by rw [pcL_of h]; exact noI_pc _ _) ?_
            intro n cs hb hR hold
            change n = r at hb
            subst hb
            rw [show readsOf plan_53_12 5 = [(46, 4)] from rfl]
            exact st_P hR (by rw [pcL_of hold]; exact pcL_len _ _) _ _ rfl rfl h4 fun w' cs' hr he hk => ⟨trivial, hk, cs', hr, he⟩
          · intro L v w hL hD hC hI
            refine ⟨fun _ => ?_, fun hw => by cases hw⟩
            refine hI.val0 hL (by simp) rfl rfl ?_
            rw [show readsOf plan_53_12 6 = [] from rfl]
            first | exact ⟨rfl, Ext.refl _⟩ | (go_simp; exact ⟨rfl, Ext.refl _⟩)
          intro L v1 W1 hL hI
          have N_r : RV W1 r 43 (fun u => u = .agg (pc (fb (0 - rtF U)) (fb (y)))) := hI.inv.row_new ⟨none, r, 43, some 5, fun cs => (Value.agg (List.toArray cs)) = .agg (pc (fun _ => 0) (fun _ => 0)), fun cs => (Value.agg (List.toArray cs)) = .agg (pc (fb (0 - rtF U)) (fb (y)))⟩ (by simp) rfl 5 rfl (hL 5 (by decide))
          replace R_n1 := R_n1.keep hI.inv.keep (by simp [ne_n1_r, Ne.symm ne_n1_r])
          replace hn5 := hn5.keep hI.inv.keep (by simp [noi_r])
          replace hn6 := hn6.keep hI.inv.keep (by simp [noi_r])
          clear noi_r
          clear R_r
          have R_r := N_r
          clear N_r
          replace lt_n1 := Nat.lt_of_lt_of_le lt_n1 hI.inv.keep.size
          replace lt_r := Nat.lt_of_lt_of_le lt_r hI.inv.keep.size
          have hx' : Ext w W1 := Ext.keep_ hx hI.inv.keep (by simp only [List.forall_mem_cons, List.not_mem_nil, false_implies, implies_true, and_true]; exact bs_r)
          have hs_3_12 : (v1 6) = .bool true := hI.inv.val 6 (hL 6 (by decide))
          clear hx hI hL hok L
          have hx := hx'
          clear hx'
          simp only [putP, Act.put, List.setIfInBounds_toArray, List.set_cons_zero, List.set_cons_succ, hs_3_12]
          go_wp2
          refine bodyPost_ret (results_P2 rfl _ R_r rfl) rfl ?_
          refine ⟨?_, hx⟩
          rw [hdl.out, rdV_some]
          rfl
  · obtain ⟨hm, ho⟩ := top_even _ ht
    replace hm := Lib.hid hm
    go_upto_region 4 with fail
    have hgb : bcells b = bcells g := by
      rw [hg'.out, ← hm.out]
      exact bcells_congr fun i _ => by
        unfold updb
        split
        · rename_i e; rw [e]
        · rfl
    rw [hgb] at R_n1
    clear hgb hm e1 e3 hg'
    replace ho := Lib.hid ho
    by_cases hlt : V g < L
    rotate_left
    · skip
      have hdd : Hid (d = none) := Lib.hid (by rw [hd.out, if_neg hlt])
      go_upto_region 6 with (first | (go_at_call 37; with_reducible refine (of_num n1 g _ R_n1).mono ?_; rintro e w1 ⟨v1, rfl, hv1, hx1⟩) | (go_at_call 56; with_reducible refine (hpn w1).mono ?_; rintro e w2 ⟨v2, rfl, hv2, hx2⟩) | (go_at_call 36; with_reducible refine (cmp_sign w2 v1 v2 _ _ (hv1.ext hx2) hv2).mono ?_; rintro e w3 ⟨c3, rfl, hc3, hx3⟩; have hc4 : 0 ≤ c3 := by unfold cmpIs at hc3; omega))
      have hx123 := hx1.trans (hx2.trans hx3)
      clear hx1 hx2 hx3 hv1 hv2 hc3 hc4
      replace R_n1 := R_n1.ext hx123
      replace R_r := R_r.ext hx123
      replace lt_n1 := Nat.lt_of_lt_of_le lt_n1 hx123.size
      replace lt_r := Nat.lt_of_lt_of_le lt_r hx123.size
      replace hx := hx.trans hx123
      have hok : TrsOk [r] w3.heap.size ([⟨none, r, 43, some 1, fun cs => (Value.agg (List.toArray cs)) = .agg (pc (fun _ => 0) (fun _ => 0)), fun cs => (Value.agg (List.toArray cs)) = .agg (pc (fun _ => 0) (fun _ => 0))⟩] : List Trk) := ⟨by simp [R_r.lt], by simp, by simp, by simp⟩
      have noi_r : NoI w3 r := R_r.noP
      refine wp_region_text (InvN [r] (fun j u => match j with | 0 => u = .agg (pc (fun _ => 0) (fun _ => 0)) | 2 => u = .bool false | _ => True) (fun _ => none) (fun _ => none) [⟨none, r, 43, some 1, fun cs => (Value.agg (List.toArray cs)) = .agg (pc (fun _ => 0) (fun _ => 0)), fun cs => (Value.agg (List.toArray cs)) = .agg (pc (fun _ => 0) (fun _ => 0))⟩] w3) plan_53_6 [(22, 0), (3, 2)] 47 rfl (by kernel_rfl) (InvN.of (Inv.start0 hok (by
          simp only [List.forall_mem_cons, List.not_mem_nil, false_implies, implies_true, and_true]
          exact fun _ => R_r))) ⟨?_, ?_, ?_, trivial⟩ ?_
      · intro L v w hL hD hC hI
        refine ⟨fun _ => ?_, fun hw => by cases hw⟩
        refine hI.val0 hL (by simp) rfl rfl ?_
        rw [show readsOf plan_53_6 0 = [] from rfl]
        exact give_zeroP rfl ⟨rfl, Ext.refl _⟩
      · intro L v w hL hD hC hI
        refine ⟨fun _ => ?_, fun hw => by cases hw⟩
        have h0 : (v 0) = .agg (pc (fun _ => 0) (fun _ => 0)) := hI.inv.val 0 (hD 0 (by decide))
        refine InvN.store_step hok hI hL ⟨none, r, 43, some 1, fun cs => (Value.agg (List.toArray cs)) = .agg (pc (fun _ => 0) (fun _ => 0)), fun cs => (Value.agg (List.toArray cs)) = .agg (pc (fun _ => 0) (fun _ => 0))⟩ (by simp) rfl (by simp) (by intro k hk; cases hk) rfl rfl (fun cs h => by rw [pcL_of h]; exact noI_pc _ _) ?_
        intro n cs hb hR hold
        change n = r at hb
        subst hb
        rw [show readsOf plan_53_6 1 = [(22, 0)] from rfl]
        exact st_P hR (by rw [pcL_of hold]; exact pcL_len _ _) _ _ rfl rfl h0 fun w' cs' hr he hk => ⟨trivial, hk, cs', hr, he⟩
      · intro L v w hL hD hC hI
        refine ⟨fun _ => ?_, fun hw => by cases hw⟩
        refine hI.val0 hL (by simp) rfl rfl ?_
        rw [show readsOf plan_53_6 2 = [] from rfl]
        first | exact ⟨rfl, Ext.refl _⟩ | (go_simp; exact ⟨rfl, Ext.refl _⟩)
      intro L v1 W1 hL hI
      have N_r : RV W1 r 43 (fun u => u = .agg (pc (fun _ => 0) (fun _ => 0))) := hI.inv.row_new ⟨none, r, 43, some 1, fun cs => (Value.agg (List.toArray cs)) = .agg (pc (fun _ => 0) (fun _ => 0)), fun cs => (Value.agg (List.toArray cs)) = .agg (pc (fun _ => 0) (fun _ => 0))⟩ (by simp) rfl 1 rfl (hL 1 (by decide))
      replace R_n1 := R_n1.keep hI.inv.keep (by simp [ne_n1_r, Ne.symm ne_n1_r])
      clear noi_r
      clear R_r
      have R_r := N_r
      clear N_r
      replace lt_n1 := Nat.lt_of_lt_of_le lt_n1 hI.inv.keep.size
      replace lt_r := Nat.lt_of_lt_of_le lt_r hI.inv.keep.size
      have hx' : Ext w W1 := Ext.keep_ hx hI.inv.keep (by simp only [List.forall_mem_cons, List.not_mem_nil, false_implies, implies_true, and_true]; exact bs_r)
      have hs_3_6 : (v1 2) = .bool false := hI.inv.val 2 (hL 2 (by decide))
      clear hx hI hL hok L
      have hx := hx'
      clear hx'
      simp only [putP, Act.put, List.setIfInBounds_toArray, List.set_cons_zero, List.set_cons_succ, hs_3_6]
      go_wp2
      refine bodyPost_ret (results_P2 rfl _ R_r rfl) rfl ?_
      refine ⟨?_, hx⟩
      rw [hdd.out, rdV_none]
      rfl
    · have hdl := hd.out
      rw [if_pos hlt] at hdl
      replace hd := Lib.hid hdl
      clear hdl
      go_upto_region 7 with (first | (go_at_call 37; with_reducible refine (of_num n1 g _ R_n1).mono ?_; rintro e w1 ⟨v1, rfl, hv1, hx1⟩) | (go_at_call 56; with_reducible refine (hpn w1).mono ?_; rintro e w2 ⟨v2, rfl, hv2, hx2⟩) | (go_at_call 36; with_reducible refine (cmp_sign w2 v1 v2 _ _ (hv1.ext hx2) hv2).mono ?_; rintro e w3 ⟨c3, rfl, hc3, hx3⟩; have hc4 : ¬ 0 ≤ c3 := by unfold cmpIs at hc3; omega))
      have hn5 : NF w3 v1 y := by
        unfold NF
        rw [hyv hlt]
        exact hv1.ext (hx2.trans hx3)
      have hx123 := hx1.trans (hx2.trans hx3)
      clear hx1 hx2 hx3 hv1 hv2 hc3 hc4 hyv hpn
      replace R_n1 := R_n1.ext hx123
      replace R_r := R_r.ext hx123
      replace lt_n1 := Nat.lt_of_lt_of_le lt_n1 hx123.size
      replace lt_r := Nat.lt_of_lt_of_le lt_r hx123.size
      replace hx := hx.trans hx123
      go_upto_region 8 with (go_at_call 75; with_reducible refine (hX hn5).mono ?_; rintro e w7 ⟨v7, rfl, hv7, hx7⟩)
      replace R_n1 := R_n1.ext hx7
      replace R_r := R_r.ext hx7
      replace lt_n1 := Nat.lt_of_lt_of_le lt_n1 hx7.size
      replace lt_r := Nat.lt_of_lt_of_le lt_r hx7.size
      replace hn5 := hn5.ext hx7
      replace hx := hx.trans hx7
      clear hX
      cases hok : okF U
      · skip
        have hdd : Hid (d = none) := Lib.hid (by rw [hd.out, if_neg (by rw [hok]; decide)])
        clear hok
        go_upto_region 9 with fail
        have hok : TrsOk [r] w7.heap.size ([⟨none, r, 43, some 1, fun cs => (Value.agg (List.toArray cs)) = .agg (pc (fun _ => 0) (fun _ => 0)), fun cs => (Value.agg (List.toArray cs)) = .agg (pc (fun _ => 0) (fun _ => 0))⟩] : List Trk) := ⟨by simp [R_r.lt], by simp, by simp, by simp⟩
        have noi_r : NoI w7 r := R_r.noP
        refine wp_region_text (InvN [r] (fun j u => match j with | 0 => u = .agg (pc (fun _ => 0) (fun _ => 0)) | 2 => u = .bool false | _ => True) (fun _ => none) (fun _ => none) [⟨none, r, 43, some 1, fun cs => (Value.agg (List.toArray cs)) = .agg (pc (fun _ => 0) (fun _ => 0)), fun cs => (Value.agg (List.toArray cs)) = .agg (pc (fun _ => 0) (fun _ => 0))⟩] w7) plan_53_9 [(38, 0), (3, 2)] 47 rfl (by kernel_rfl) (InvN.of (Inv.start0 hok (by
            simp only [List.forall_mem_cons, List.not_mem_nil, false_implies, implies_true, and_true]
            exact fun _ => R_r))) ⟨?_, ?_, ?_, trivial⟩ ?_
        · intro L v w hL hD hC hI
          refine ⟨fun _ => ?_, fun hw => by cases hw⟩
          refine hI.val0 hL (by simp) rfl rfl ?_
          rw [show readsOf plan_53_9 0 = [] from rfl]
          exact give_zeroP rfl ⟨rfl, Ext.refl _⟩
        · intro L v w hL hD hC hI
          refine ⟨fun _ => ?_, fun hw => by cases hw⟩
          have h0 : (v 0) = .agg (pc (fun _ => 0) (fun _ => 0)) := hI.inv.val 0 (hD 0 (by decide))
          refine InvN.store_step hok hI hL ⟨none, r, 43, some 1, fun cs => (Value.agg (List.toArray cs)) = .agg (pc (fun _ => 0) (fun _ => 0)), fun cs => (Value.agg (List.toArray cs)) = .agg (pc (fun _ => 0) (fun _ => 0))⟩ (by simp) rfl (by simp) (by intro k hk; cases hk) rfl rfl (fun cs h => by rw [pcL_of h]; exact noI_pc _ _) ?_
          intro n cs hb hR hold
          change n = r at hb
          subst hb
          rw [show readsOf plan_53_9 1 = [(38, 0)] from rfl]
          exact st_P hR (by rw [pcL_of hold]; exact pcL_len _ _) _ _ rfl rfl h0 fun w' cs' hr he hk => ⟨trivial, hk, cs', hr, he⟩
        · intro L v w hL hD hC hI
          refine ⟨fun _ => ?_, fun hw => by cases hw⟩
          refine hI.val0 hL (by simp) rfl rfl ?_
          rw [show readsOf plan_53_9 2 = [] from rfl]
          first | exact ⟨rfl, Ext.refl _⟩ | (go_simp; exact ⟨rfl, Ext.refl _⟩)
        intro L v1 W1 hL hI
        have N_r : RV W1 r 43 (fun u => u = .agg (pc (fun _ => 0) (fun _ => 0))) := hI.inv.row_new ⟨none, r, 43, some 1, fun cs => (Value.agg (List.toArray cs)) = .agg (pc (fun _ => 0) (fun _ => 0)), fun cs => (Value.agg (List.toArray cs)) = .agg (pc (fun _ => 0) (fun _ => 0))⟩ (by simp) rfl 1 rfl (hL 1 (by decide))
        replace R_n1 := R_n1.keep hI.inv.keep (by simp [ne_n1_r, Ne.symm ne_n1_r])
        replace hn5 := hn5.keep hI.inv.keep (by simp [noi_r])
        clear noi_r
        clear R_r
        have R_r := N_r
        clear N_r
        replace lt_n1 := Nat.lt_of_lt_of_le lt_n1 hI.inv.keep.size
        replace lt_r := Nat.lt_of_lt_of_le lt_r hI.inv.keep.size
        have hx' : Ext w W1 := Ext.keep_ hx hI.inv.keep (by simp only [List.forall_mem_cons, List.not_mem_nil, false_implies, implies_true, and_true]; exact bs_r)
        have hs_3_9 : (v1 2) = .bool false := hI.inv.val 2 (hL 2 (by decide))
        clear hx hI hL hok L
        have hx := hx'
        clear hx'
        simp only [putP, Act.put, List.setIfInBounds_toArray, List.set_cons_zero, List.set_cons_succ, hs_3_9]
        go_wp2
        refine bodyPost_ret (results_P2 rfl _ R_r rfl) rfl ?_
        refine ⟨?_, hx⟩
        rw [hdd.out, rdV_none]
        rfl
      · have hn6 := hv7 hok
        have hdl := hd.out
        rw [if_pos hok] at hdl
        clear hd hok hv7
        obtain ⟨A, n, c, rfl⟩ := hn6.sl
        have hlen := hn6.len
        rw [if_neg (by rw [ho.out]; decide)] at hdl
        replace hdl := Lib.hid hdl
        clear hlen
        go_upto_region 12 with fail
        have hok : TrsOk [r] w7.heap.size ([⟨none, r, 43, some 5, fun cs => (Value.agg (List.toArray cs)) = .agg (pc (fun _ => 0) (fun _ => 0)), fun cs => (Value.agg (List.toArray cs)) = .agg (pc (fb (rtF U)) (fb (y)))⟩] : List Trk) := ⟨by simp [R_r.lt], by simp, by simp, by simp⟩
        have noi_r : NoI w7 r := R_r.noP
        refine wp_region_text (InvN [r] (fun j u => match j with | 1 => u = .agg (bcells (fb (rtF U))) | 3 => u = .agg (bcells (fb (y))) | 4 => u = .agg (pc (fb (rtF U)) (fb (y))) | 6 => u = .bool true | _ => True) (fun j => match j with | 0 => some (rtF U) | 2 => some (y) | _ => none) (fun _ => none) [⟨none, r, 43, some 5, fun cs => (Value.agg (List.toArray cs)) = .agg (pc (fun _ => 0) (fun _ => 0)), fun cs => (Value.agg (List.toArray cs)) = .agg (pc (fb (rtF U)) (fb (y)))⟩] w7) plan_53_12 [(42, 0), (43, 1), (44, 2), (45, 3), (46, 4), (3, 6)] 47 rfl (by kernel_rfl) (InvN.of (Inv.start0 hok (by
            simp only [List.forall_mem_cons, List.not_mem_nil, false_implies, implies_true, and_true]
            exact fun _ => R_r))) ⟨?_, ?_, ?_, ?_, ?_, ?_, ?_, trivial⟩ ?_
        · intro L v w hL hD hC hI
          refine ⟨fun _ => ?_, fun hw => by cases hw⟩
          refine hI.numv _ hL (by simp) rfl rfl (fun _ => trivial) ?_
          rw [show readsOf plan_53_12 0 = [] from rfl]
          exact ⟨hn6.keep hI.inv.keep (by simp [noi_r]), Ext.refl _⟩
        · intro L v w hL hD hC hI
          refine ⟨fun _ => ?_, fun hw => by cases hw⟩
          have h0 : NF w (v 0) (rtF U) := hI.num.n 0 _ (hD 0 (by decide)) rfl
          refine hI.val0 hL (by simp) rfl rfl ?_
          rw [show readsOf plan_53_12 1 = [(42, 0)] from rfl]
          refine give_call _ _ _ _ rfl rfl Try.func17 (by kernel_rfl) (by kernel_rfl) ?_
          refine Calls.mono (nbytes h0) ?_
          rintro e w' ⟨rfl, hx⟩
          exact ⟨_, rfl, rfl, hx⟩
        · intro L v w hL hD hC hI
          refine ⟨fun _ => ?_, fun hw => by cases hw⟩
          refine hI.numv _ hL (by simp) rfl rfl (fun _ => trivial) ?_
          rw [show readsOf plan_53_12 2 = [] from rfl]
          exact ⟨hn5.keep hI.inv.keep (by simp [noi_r]), Ext.refl _⟩
        · intro L v w hL hD hC hI
          refine ⟨fun _ => ?_, fun hw => by cases hw⟩
          have h2 : NF w (v 2) (y) := hI.num.n 2 _ (hD 2 (by decide)) rfl
          refine hI.val0 hL (by simp) rfl rfl ?_
          rw [show readsOf plan_53_12 3 = [(44, 2)] from rfl]
          refine give_call _ _ _ _ rfl rfl Try.func17 (by kernel_rfl) (by kernel_rfl) ?_
          refine Calls.mono (nbytes h2) ?_
          rintro e w' ⟨rfl, hx⟩
          exact ⟨_, rfl, rfl, hx⟩
        · intro L v w hL hD hC hI
          refine ⟨fun _ => ?_, fun hw => by cases hw⟩
          have h1 : (v 1) = .agg (bcells (fb (rtF U))) := hI.inv.val 1 (hD 1 (by decide))
          have h3 : (v 3) = .agg (bcells (fb (y))) := hI.inv.val 3 (hD 3 (by decide))
          refine hI.val0 hL (by simp) rfl rfl ?_
          rw [show readsOf plan_53_12 4 = [(43, 1), (45, 3)] from rfl]
          exact bd_P _ _ rfl h1 h3 fun u hu => ⟨hu, Ext.refl _⟩
        · intro L v w hL hD hC hI
          refine ⟨fun _ => ?_, fun hw => by cases hw⟩
          have h4 : (v 4) = .agg (pc (fb (rtF U)) (fb (y))) := hI.inv.val 4 (hD 4 (by decide))
          refine InvN.store_step hok hI hL ⟨none, r, 43, some 5, fun cs => (Value.agg (List.toArray cs)) = .agg (pc (fun _ => 0) (fun _ => 0)), fun cs => (Value.agg (List.toArray cs)) = .agg (pc (fb (rtF U)) (fb (y)))⟩ (by simp) rfl (by simp) (by intro k hk; cases hk) rfl rfl (fun cs h => by rw [pcL_of h]; exact noI_pc _ _) ?_
          intro n cs hb hR hold
          change n = r at hb
          subst hb
          rw [show readsOf plan_53_12 5 = [(46, 4)] from rfl]
          exact st_P hR (by rw [pcL_of hold]; exact pcL_len _ _) _ _ rfl rfl h4 fun w' cs' hr he hk => ⟨trivial, hk, cs', hr, he⟩
        · intro L v w hL hD hC hI
          refine ⟨fun _ => ?_, fun hw => by cases hw⟩
          refine hI.val0 hL (by simp) rfl rfl ?_
          rw [show readsOf plan_53_12 6 = [] from rfl]
          first | exact ⟨rfl, Ext.refl _⟩ | (go_simp; exact ⟨rfl, Ext.refl _⟩)
        intro L v1 W1 hL hI
        have N_r : RV W1 r 43 (fun u => u = .agg (pc (fb (rtF U)) (fb (y)))) := hI.inv.row_new ⟨none, r, 43, some 5, fun cs => (Value.agg (List.toArray cs)) = .agg (pc (fun _ => 0) (fun _ => 0)), fun cs => (Value.agg (List.toArray cs)) = .agg (pc (fb (rtF U)) (fb (y)))⟩ (by simp) rfl 5 rfl (hL 5 (by decide))
        replace R_n1 := R_n1.keep hI.inv.keep (by simp [ne_n1_r, Ne.symm ne_n1_r])
        replace hn5 := hn5.keep hI.inv.keep (by simp [noi_r])
        replace hn6 := hn6.keep hI.inv.keep (by simp [noi_r])
        clear noi_r
        clear R_r
        have R_r := N_r
        clear N_r
        replace lt_n1 := Nat.lt_of_lt_of_le lt_n1 hI.inv.keep.size
        replace lt_r := Nat.lt_of_lt_of_le lt_r hI.inv.keep.size
        have hx' : Ext w W1 := Ext.keep_ hx hI.inv.keep (by simp only [List.forall_mem_cons, List.not_mem_nil, false_implies, implies_true, and_true]; exact bs_r)
        have hs_3_12 : (v1 6) = .bool true := hI.inv.val 6 (hL 6 (by decide))
        clear hx hI hL hok L
        have hx := hx'
        clear hx'
        simp only [putP, Act.put, List.setIfInBounds_toArray, List.set_cons_zero, List.set_cons_succ, hs_3_12]
        go_wp2
        refine bodyPost_ret (results_P2 rfl _ R_r rfl) rfl ?_
        refine ⟨?_, hx⟩
        rw [hdl.out, rdV_some]
        rfl
end Go.Proofs.Ytndohjgfjbopnaa
