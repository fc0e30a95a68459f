/-
  The document's answer of layer 7: points in and out, the negative, the bytes, the sum, a number times a point.
-/
import Derived.Test.YtndohjgfjbopnaaInn
import Derived.Test.YtndohjgfjbopnaaTms
set_option linter.unusedSimpArgs false
set_option linter.unusedVariables false
namespace Go.Cv
open Go.RowKit Go.Cv.Pr Go.Cv.Grp
theorem RV.newP (w : World) (f g : Nat → UInt8) (T : TypeId) : RV (w.alloc (.cells (pc f g) T)) w.heap.size T (fun u => u = .agg (pc f g)) := ⟨pcL f g, Row.alloc w (pcL f g) T, rfl⟩
theorem add_top (a b : UInt8) (ha : a.toNat < 128) : a + b % (2 : UInt8) * (128 : UInt8) = a ||| b <<< (7 : UInt8) := by
  have h1 : (b <<< 7).toNat = 2 ^ 7 * (b.toNat % 2) := by
    rw [show (b <<< 7).toNat = b.toNat * 2 ^ 7 % 256 from toNat_shl_u8 b 7 (by decide)]
    omega
  apply UInt8.toNat_inj.1
  rw [UInt8.toNat_or, h1, Nat.or_comm, ← Nat.two_pow_add_eq_or_of_lt (by simpa using ha), UInt8.toNat_add, UInt8.toNat_mul, UInt8.toNat_mod]
  have e1 : (2 : UInt8).toNat = 2 := rfl
  have e2 : (128 : UInt8).toNat = 128 := rfl
  rw [e1, e2]
  omega
theorem fb_top_ (y : F7) : (fb y 31).toNat < 128 := by
  have h := y.isLt
  have hp : pp < 2 ^ 255 := by unfold pp; decide
  show (UInt8.ofNat (y.val / 2 ^ (8 * 31))).toNat < 128
  rw [UInt8.toNat_ofNat']
  have : y.val / 2 ^ (8 * 31) < 128 := by
    rw [Nat.div_lt_iff_lt_mul (Nat.two_pow_pos _)]
    exact Nat.lt_trans h (Nat.lt_of_lt_of_le hp (by decide))
  omega
end Go.Cv
namespace Go.Proofs.Ytndohjgfjbopnaa
open Go.RowKit Go.Cv Go.Cv.Pr Go.Cv.Grp Go.Cv.Dig
theorem R3w.new (w : World) (a b c : Value) {X Y Z : F7} (h1 : NF w a X) (h2 : NF w b Y) (h3 : NF w c Z) : R3w (w.alloc (.cells #[a, b, c] 60)) w.heap.size X Y Z :=
  ⟨a, b, c, Row.alloc w [a, b, c] _, h1.ext (ext_alloc _ _), h2.ext (ext_alloc _ _), h3.ext (ext_alloc _ _)⟩
theorem NF.sl {w : World} {v : Value} {x : F7} (h : NF w v x) : ∃ A n c, v = .slice A n c := by
  obtain ⟨A, n, c, l, h, -⟩ := h
  exact ⟨A, n, c, h⟩
theorem u60 : ∃ fs, Try.prog.underlying 60 = some (.struct fs) := ⟨_, Try.underlying60⟩
theorem i60 : (Try.prog.info? 60).map (·.size) = some 3 := by kernel_rfl
theorem results_B1 {fn : Func} {p : Tmp} (h : fn.results = #[.cell p 22]) (tmps : Array Value) {W : World} {n : Nat} {f : Nat → UInt8} (hR : RV W n 22 (fun u => u = .agg (bcells f)))
    (hp : tmps.getD p undef = .pointer (some ⟨n, 0, none⟩)) : (results fn tmps).run Try.prog W = .ok (.agg (bcells f)) W := by
  obtain ⟨cs, h1, h2⟩ := hR
  have e := bL_of h2
  subst e
  have := results_cell_row (P := Try.prog) h tmps W n _ _ (0, 0) _ hp h1 u22 rfl (by simpa using i22)
  rwa [Array.toArray_toList] at this
theorem results_P1 {fn : Func} {p : Tmp} (h : fn.results = #[.cell p 43]) (tmps : Array Value) {W : World} {n : Nat} {f g : Nat → UInt8} (hR : RV W n 43 (fun u => u = .agg (pc f g)))
    (hp : tmps.getD p undef = .pointer (some ⟨n, 0, none⟩)) : (results fn tmps).run Try.prog W = .ok (.agg (pc f g)) W := by
  obtain ⟨cs, h1, h2⟩ := hR
  have e := pcL_of h2
  subst e
  obtain ⟨fs, hu⟩ := uPt
  exact results_cell_row (P := Try.prog) h tmps W n _ _ (0, 0) _ hp h1 hu rfl (by rw [pc_size]; exact iPt)
def plan_46_1 : List Plan := [⟨[], []⟩, ⟨[0], [(4, 0)]⟩, ⟨[0, 1], [(5, 1)]⟩, ⟨[0, 1, 2], [(6, 2)]⟩]
def plan_46_2 : List Plan := [⟨[], []⟩, ⟨[0], [(7, 0)]⟩, ⟨[], []⟩, ⟨[0, 1, 2], [(8, 1), (9, 2)]⟩, ⟨[0, 1, 2, 3], [(10, 3)]⟩, ⟨[], []⟩, ⟨[5], [(12, 5)]⟩, ⟨[], []⟩, ⟨[0, 1, 2, 3, 4, 5, 6, 7], [(13, 6), (14, 7)]⟩, ⟨[0, 1, 2, 3, 4, 5, 6, 7, 8], [(15, 8)]⟩, ⟨[0, 1, 2, 3, 4, 5, 6, 7, 8, 9], [(11, 4), (16, 9)]⟩, ⟨[0, 1, 2, 3, 4, 5, 6, 7, 8, 9, 10], [(17, 10)]⟩]
def plan_49_1 : List Plan := [⟨[], []⟩, ⟨[0], [(4, 0)]⟩, ⟨[0, 1], [(5, 1)]⟩, ⟨[0, 1, 2], [(6, 2)]⟩, ⟨[0, 1, 2, 3], [(7, 3)]⟩]
def plan_49_2 : List Plan := [⟨[], []⟩, ⟨[0], [(8, 0)]⟩, ⟨[], []⟩, ⟨[2], [(10, 2)]⟩, ⟨[0, 1, 2, 3], [(11, 3)]⟩, ⟨[0, 1, 2, 3, 4], [(12, 4)]⟩, ⟨[0, 1, 2, 3, 4, 5], [(9, 1), (13, 5)]⟩, ⟨[0, 1, 2, 3, 4, 5, 6], [(14, 6)]⟩]
def plan_55_1 : List Plan := [⟨[], []⟩, ⟨[0], [(5, 0)]⟩, ⟨[0, 1], [(6, 1)]⟩, ⟨[0, 1, 2], [(7, 2)]⟩, ⟨[], []⟩, ⟨[0, 1, 2, 3, 4], [(8, 3), (3, 4)]⟩]
def plan_55_2 : List Plan := [⟨[], []⟩, ⟨[0], [(9, 0)]⟩, ⟨[0, 1], [(10, 1)]⟩, ⟨[0, 1, 2], [(11, 2)]⟩, ⟨[], []⟩, ⟨[0, 1, 2, 3, 4], [(12, 3), (4, 4)]⟩]
def plan_55_4 : List Plan := [⟨[], []⟩, ⟨[0], [(21, 0)]⟩]
set_option maxRecDepth 20000 in
set_option maxHeartbeats 8000000 in
theorem rout {w : World} {v : Value} {P : P7} (h : NP w v P) :
    Calls Try.prog 46 #[v] w fun e w' => e = .returned (.agg (pc (fb P.x) (fb P.y))) ∧ Ext w w' := by
  obtain ⟨a, b, c, X, Y, Z, rfl, ha, hb, hc, hR3⟩ := h
  obtain ⟨o1, o2⟩ := hR3.out
  replace o1 := Lib.hid o1
  replace o2 := Lib.hid o2
  clear hR3
  go_enter Try.func46, Try.ntmps46
  go_upto_region 1 with fail
  obtain ⟨E0, hE0⟩ : ∃ W, W = w.alloc (.cells #[a, b, c] 60) := ⟨_, rfl⟩
  obtain ⟨E1, hE1⟩ : ∃ W, W = E0.alloc (.cells (pc (fun _ => 0) (fun _ => 0)) 43) := ⟨_, rfl⟩
  rw [← hE0, ← hE1]
  have s0 : E0.heap.size = w.heap.size + 1 := by rw [hE0]; exact Array.size_push _
  have x0 : Ext w E0 := by rw [hE0]; exact ext_alloc _ _
  have s1 : E1.heap.size = w.heap.size + 1 + 1 := by rw [hE1, ← s0]; exact Array.size_push _
  have x1 : Ext E0 E1 := by rw [hE1]; exact ext_alloc _ _
  have R_q := R3w.new w a b c (ha.ext (Ext.refl w)) (hb.ext (Ext.refl w)) (hc.ext (Ext.refl w))
  rw [← hE0] at R_q
  replace R_q := R_q.ext x1
  have R_r := RV.newP E0 (fun _ => 0) (fun _ => 0) 43
  rw [← hE1] at R_r
  rw [s0] at R_r
  obtain ⟨q, hb0⟩ : ∃ b, b = w.heap.size := ⟨_, rfl⟩
  obtain ⟨r, hb1⟩ : ∃ b, b = w.heap.size + 1 := ⟨_, rfl⟩
  rw [← hb1] at R_r
  rw [← hb0] at R_q
  rw [← hb1, ← hb0]
  have hx : Ext w E1 := ((Ext.refl w).trans x0).trans x1
  have lt_q : q < E1.heap.size := R_q.lt
  have bs_q : w.heap.size ≤ q := by omega
  have lt_r : r < E1.heap.size := R_r.lt
  have bs_r : w.heap.size ≤ r := by omega
  have ne_q_r : q ≠ r := by omega
  clear hb0 s0 x0 hE0 hb1 s1 x1 hE1
  clear ha hb hc
  have hok : TrsOk [] E1.heap.size ([] : List Trk) := ⟨by simp, by simp, by simp, by simp⟩
  refine wp_region_text (InvN [] (fun j u => match j with | 0 => u = .pointer (some ⟨q, 2, none⟩) | _ => True) (fun j => match j with | 1 => some (Z) | 2 => some (fiv (Z)) | 3 => some (fiv (Z)) | _ => none) (fun _ => none) [] E1) plan_46_1 [(4, 0), (5, 1), (6, 2), (3, 3)] 18 rfl (by kernel_rfl) (InvN.of (Inv.start0 hok (by simp))) ⟨?_, ?_, ?_, ?_, trivial⟩ ?_
  · intro L v w hL hD hC hI
    refine ⟨fun _ => ?_, fun hw => by cases hw⟩
    refine hI.val0 hL (by simp) rfl rfl ?_
    rw [show readsOf plan_46_1 0 = [] from rfl]
    go_simp
    exact ⟨rfl, Ext.refl _⟩
  · intro L v w hL hD hC hI
    refine ⟨fun _ => ?_, fun hw => by cases hw⟩
    have h0 : (v 0) = .pointer (some ⟨q, 2, none⟩) := hI.inv.val 0 (hD 0 (by decide))
    refine hI.numv _ hL (by simp) rfl rfl (fun _ => trivial) ?_
    rw [show readsOf plan_46_1 1 = [(4, 0)] from rfl]
    exact ld_3z (R_q.keep hI.inv.keep (by simp) (by simp)) _ rfl h0 fun u hu => ⟨hu, Ext.refl _⟩
  · intro L v w hL hD hC hI
    refine ⟨fun _ => ?_, fun hw => by cases hw⟩
    have h1 : NF w (v 1) (Z) := hI.num.n 1 _ (hD 1 (by decide)) rfl
    refine hI.numv _ hL (by simp) rfl rfl (fun _ => trivial) ?_
    rw [show readsOf plan_46_1 2 = [(5, 1)] from rfl]
    refine give_call _ _ _ _ rfl rfl Try.func18 (by kernel_rfl) (by kernel_rfl) ?_
    refine Calls.mono (ninv h1) ?_
    rintro e w' ⟨r, rfl, hr, hx⟩
    exact ⟨r, rfl, hr, hx⟩
  · intro L v w hL hD hC hI
    refine ⟨fun _ => ?_, fun hw => by cases hw⟩
    have h2 : NF w (v 2) (fiv (Z)) := hI.num.n 2 _ (hD 2 (by decide)) rfl
    refine hI.numv _ hL (by simp) rfl rfl (fun _ => trivial) ?_
    rw [show readsOf plan_46_1 3 = [(6, 2)] from rfl]
    exact ⟨h2, Ext.refl _⟩
  intro L v1 W1 hL hI
  replace R_q := R_q.keep hI.inv.keep (by simp) (by simp)
  replace R_r := R_r.keep hI.inv.keep (by simp)
  replace lt_q := Nat.lt_of_lt_of_le lt_q hI.inv.keep.size
  replace lt_r := Nat.lt_of_lt_of_le lt_r hI.inv.keep.size
  have hx' : Ext w W1 := hx.trans hI.inv.keep.to_ext
  have hn_3 := hI.num.n 3 _ (hL 3 (by decide)) rfl
  clear hx hI hL hok L
  have hx := hx'
  clear hx'
  simp only [putP, Act.put, List.setIfInBounds_toArray, List.set_cons_zero, List.set_cons_succ]
  go_upto_region 2 with fail
  have hok : TrsOk [r] W1.heap.size ([⟨none, r, 43, some 11, fun cs => (Value.agg (List.toArray cs)) = .agg (pc (fun _ => 0) (fun _ => 0)), fun cs => (Value.agg (List.toArray cs)) = .agg (pc (fb ((X) * (fiv (Z)))) (fb ((Y) * (fiv (Z)))))⟩] : List Trk) := ⟨by simp [R_r.lt], by simp, by simp, by simp⟩
  have noi_r : NoI W1 r := R_r.noP
  refine wp_region_plan (InvN [r] (fun j u => match j with | 0 => u = .pointer (some ⟨q, 0, none⟩) | 4 => u = .agg (bcells (fb ((X) * (fiv (Z))))) | 5 => u = .pointer (some ⟨q, 1, none⟩) | 9 => u = .agg (bcells (fb ((Y) * (fiv (Z))))) | 10 => u = .agg (pc (fb ((X) * (fiv (Z)))) (fb ((Y) * (fiv (Z))))) | _ => True) (fun j => match j with | 1 => some (X) | 2 => some (fiv (Z)) | 3 => some ((X) * (fiv (Z))) | 6 => some (Y) | 7 => some (fiv (Z)) | 8 => some ((Y) * (fiv (Z))) | _ => none) (fun _ => none) [⟨none, r, 43, some 11, fun cs => (Value.agg (List.toArray cs)) = .agg (pc (fun _ => 0) (fun _ => 0)), fun cs => (Value.agg (List.toArray cs)) = .agg (pc (fb ((X) * (fiv (Z)))) (fb ((Y) * (fiv (Z)))))⟩] W1) plan_46_2 [(7, 0), (8, 1), (9, 2), (10, 3), (11, 4), (12, 5), (13, 6), (14, 7), (15, 8), (16, 9), (17, 10)] 18 (by kernel_rfl) rfl (by kernel_rfl) (InvN.of (Inv.start hok (by
      simp only [List.forall_mem_cons, List.not_mem_nil, false_implies, implies_true, and_true]
      exact fun _ => R_r))) ⟨?_, ?_, ?_, ?_, ?_, ?_, ?_, ?_, ?_, ?_, ?_, ?_, trivial⟩ ?_
  · intro L v w hL hD hC hI
    refine ⟨fun _ => ?_, fun hw => by cases hw⟩
    refine hI.val0 hL (by simp) rfl rfl ?_
    rw [show readsOf plan_46_2 0 = [] from rfl]
    go_simp
    exact ⟨rfl, Ext.refl _⟩
  · intro L v w hL hD hC hI
    refine ⟨fun _ => ?_, fun hw => by cases hw⟩
    have h0 : (v 0) = .pointer (some ⟨q, 0, none⟩) := hI.inv.val 0 (hD 0 (by decide))
    refine hI.numv _ hL (by simp) rfl rfl (fun _ => trivial) ?_
    rw [show readsOf plan_46_2 1 = [(7, 0)] from rfl]
    exact ld_3x (R_q.keep hI.inv.keep (by simp [noi_r]) (by simp [ne_q_r, Ne.symm ne_q_r])) _ rfl h0 fun u hu => ⟨hu, Ext.refl _⟩
  · intro L v w hL hD hC hI
    refine ⟨fun _ => ?_, fun hw => by cases hw⟩
    refine hI.numv _ hL (by simp) rfl rfl (fun _ => trivial) ?_
    rw [show readsOf plan_46_2 2 = [] from rfl]
    exact ⟨hn_3.keep hI.inv.keep (by simp [noi_r]), Ext.refl _⟩
  · intro L v w hL hD hC hI
    refine ⟨fun _ => ?_, fun hw => by cases hw⟩
    have h1 : NF w (v 1) (X) := hI.num.n 1 _ (hD 1 (by decide)) rfl
    have h2 : NF w (v 2) (fiv (Z)) := hI.num.n 2 _ (hD 2 (by decide)) rfl
    refine hI.numv _ hL (by simp) rfl rfl (fun _ => trivial) ?_
    rw [show readsOf plan_46_2 3 = [(8, 1), (9, 2)] from rfl]
    refine give_call _ _ _ _ rfl rfl Try.func26 (by kernel_rfl) (by kernel_rfl) ?_
    refine Calls.mono (nmul h1 h2) ?_
    rintro e w' ⟨r, rfl, hr, hx⟩
    exact ⟨r, rfl, hr, hx⟩
  · intro L v w hL hD hC hI
    refine ⟨fun _ => ?_, fun hw => by cases hw⟩
    have h3 : NF w (v 3) ((X) * (fiv (Z))) := hI.num.n 3 _ (hD 3 (by decide)) rfl
    refine hI.val0 hL (by simp) rfl rfl ?_
    rw [show readsOf plan_46_2 4 = [(10, 3)] from rfl]
    refine give_call _ _ _ _ rfl rfl Try.func17 (by kernel_rfl) (by kernel_rfl) ?_
    refine Calls.mono (nbytes h3) ?_
    rintro e w' ⟨rfl, hx⟩
    exact ⟨_, rfl, rfl, hx⟩
  · intro L v w hL hD hC hI
    refine ⟨fun _ => ?_, fun hw => by cases hw⟩
    refine hI.val0 hL (by simp) rfl rfl ?_
    rw [show readsOf plan_46_2 5 = [] from rfl]
    go_simp
    exact ⟨rfl, Ext.refl _⟩
  · intro L v w hL hD hC hI
    refine ⟨fun _ => ?_, fun hw => by cases hw⟩
    have h5 : (v 5) = .pointer (some ⟨q, 1, none⟩) := hI.inv.val 5 (hD 5 (by decide))
    refine hI.numv _ hL (by simp) rfl rfl (fun _ => trivial) ?_
    rw [show readsOf plan_46_2 6 = [(12, 5)] from rfl]
    exact ld_3y (R_q.keep hI.inv.keep (by simp [noi_r]) (by simp [ne_q_r, Ne.symm ne_q_r])) _ rfl h5 fun u hu => ⟨hu, Ext.refl _⟩
  · intro L v w hL hD hC hI
    refine ⟨fun _ => ?_, fun hw => by cases hw⟩
    refine hI.numv _ hL (by simp) rfl rfl (fun _ => trivial) ?_
    rw [show readsOf plan_46_2 7 = [] from rfl]
    exact ⟨hn_3.keep hI.inv.keep (by simp [noi_r]), Ext.refl _⟩
  · intro L v w hL hD hC hI
    refine ⟨fun _ => ?_, fun hw => by cases hw⟩
    have h6 : NF w (v 6) (Y) := hI.num.n 6 _ (hD 6 (by decide)) rfl
    have h7 : NF w (v 7) (fiv (Z)) := hI.num.n 7 _ (hD 7 (by decide)) rfl
    refine hI.numv _ hL (by simp) rfl rfl (fun _ => trivial) ?_
    rw [show readsOf plan_46_2 8 = [(13, 6), (14, 7)] from rfl]
    refine give_call _ _ _ _ rfl rfl Try.func26 (by kernel_rfl) (by kernel_rfl) ?_
    refine Calls.mono (nmul h6 h7) ?_
    rintro e w' ⟨r, rfl, hr, hx⟩
    exact ⟨r, rfl, hr, hx⟩
  · intro L v w hL hD hC hI
    refine ⟨fun _ => ?_, fun hw => by cases hw⟩
    have h8 : NF w (v 8) ((Y) * (fiv (Z))) := hI.num.n 8 _ (hD 8 (by decide)) rfl
    refine hI.val0 hL (by simp) rfl rfl ?_
    rw [show readsOf plan_46_2 9 = [(15, 8)] from rfl]
    refine give_call _ _ _ _ rfl rfl Try.func17 (by kernel_rfl) (by kernel_rfl) ?_
    refine Calls.mono (nbytes h8) ?_
    rintro e w' ⟨rfl, hx⟩
    exact ⟨_, rfl, rfl, hx⟩
  · intro L v w hL hD hC hI
    refine ⟨fun _ => ?_, fun hw => by cases hw⟩
    have h4 : (v 4) = .agg (bcells (fb ((X) * (fiv (Z))))) := hI.inv.val 4 (hD 4 (by decide))
    have h9 : (v 9) = .agg (bcells (fb ((Y) * (fiv (Z))))) := hI.inv.val 9 (hD 9 (by decide))
    refine hI.val0 hL (by simp) rfl rfl ?_
    rw [show readsOf plan_46_2 10 = [(11, 4), (16, 9)] from rfl]
    exact bd_P _ _ rfl h4 h9 fun u hu => ⟨hu, Ext.refl _⟩
  · intro L v w hL hD hC hI
    refine ⟨fun _ => ?_, fun hw => by cases hw⟩
    have h10 : (v 10) = .agg (pc (fb ((X) * (fiv (Z)))) (fb ((Y) * (fiv (Z))))) := hI.inv.val 10 (hD 10 (by decide))
    refine InvN.store_step hok hI hL ⟨none, r, 43, some 11, fun cs => (Value.agg (List.toArray cs)) = .agg (pc (fun _ => 0) (fun _ => 0)), fun cs => (Value.agg (List.toArray cs)) = .agg (pc (fb ((X) * (fiv (Z)))) (fb ((Y) * (fiv (Z)))))⟩ (by simp) rfl (by simp) (by intro k hk; cases hk) rfl rfl (fun cs h => by rw [pcL_of h]; exact noI_pc _ _) ?_
    intro n cs hb hR hold
    change n = r at hb
    subst hb
    rw [show readsOf plan_46_2 11 = [(17, 10)] from rfl]
    exact st_P hR (by rw [pcL_of hold]; exact pcL_len _ _) _ _ rfl rfl h10 fun w' cs' hr he hk => ⟨trivial, hk, cs', hr, he⟩
  intro L v2 W2 hL hI
  have N_r : RV W2 r 43 (fun u => u = .agg (pc (fb ((X) * (fiv (Z)))) (fb ((Y) * (fiv (Z)))))) := hI.inv.row_new ⟨none, r, 43, some 11, fun cs => (Value.agg (List.toArray cs)) = .agg (pc (fun _ => 0) (fun _ => 0)), fun cs => (Value.agg (List.toArray cs)) = .agg (pc (fb ((X) * (fiv (Z)))) (fb ((Y) * (fiv (Z)))))⟩ (by simp) rfl 11 rfl (hL 11 (by decide))
  replace R_q := R_q.keep hI.inv.keep (by simp [noi_r]) (by simp [ne_q_r, Ne.symm ne_q_r])
  replace hn_3 := hn_3.keep hI.inv.keep (by simp [noi_r])
  clear noi_r
  clear R_r
  have R_r := N_r
  clear N_r
  replace lt_q := Nat.lt_of_lt_of_le lt_q hI.inv.keep.size
  replace lt_r := Nat.lt_of_lt_of_le lt_r hI.inv.keep.size
  have hx' : Ext w W2 := Ext.keep_ hx hI.inv.keep (by simp only [List.forall_mem_cons, List.not_mem_nil, false_implies, implies_true, and_true]; exact bs_r)
  clear hx hI hL hok L
  have hx := hx'
  clear hx'
  simp only [putP, Act.put, List.setIfInBounds_toArray, List.set_cons_zero, List.set_cons_succ]
  go_wp2
  refine bodyPost_ret (results_P1 rfl _ R_r rfl) rfl ⟨?_, hx⟩
  rw [o1.out, o2.out]
set_option maxRecDepth 20000 in
set_option maxHeartbeats 8000000 in
theorem rneg (f g : Nat → UInt8) (w : World) :
    Calls Try.prog 49 #[.agg (pc f g)] w fun e w' => e = .returned (.agg (pc (fb (0 - tf (V f))) (fb (tf (V g))))) ∧ Ext w w' := by
  go_enter Try.func49, Try.ntmps49
  go_upto_region 1 with fail
  obtain ⟨E0, hE0⟩ : ∃ W, W = w.alloc (.cells (pc f g) 43) := ⟨_, rfl⟩
  obtain ⟨E1, hE1⟩ : ∃ W, W = E0.alloc (.cells (pc (fun _ => 0) (fun _ => 0)) 43) := ⟨_, rfl⟩
  rw [← hE0, ← hE1]
  have s0 : E0.heap.size = w.heap.size + 1 := by rw [hE0]; exact Array.size_push _
  have x0 : Ext w E0 := by rw [hE0]; exact ext_alloc _ _
  have s1 : E1.heap.size = w.heap.size + 1 + 1 := by rw [hE1, ← s0]; exact Array.size_push _
  have x1 : Ext E0 E1 := by rw [hE1]; exact ext_alloc _ _
  have R_q := RV.newP w f g 43
  rw [← hE0] at R_q
  replace R_q := R_q.ext x1
  have R_r := RV.newP E0 (fun _ => 0) (fun _ => 0) 43
  rw [← hE1] at R_r
  rw [s0] at R_r
  obtain ⟨q, hb0⟩ : ∃ b, b = w.heap.size := ⟨_, rfl⟩
  obtain ⟨r, hb1⟩ : ∃ b, b = w.heap.size + 1 := ⟨_, rfl⟩
  rw [← hb1] at R_r
  rw [← hb0] at R_q
  rw [← hb1, ← hb0]
  have hx : Ext w E1 := ((Ext.refl w).trans x0).trans x1
  have lt_q : q < E1.heap.size := R_q.lt
  have bs_q : w.heap.size ≤ q := by omega
  have lt_r : r < E1.heap.size := R_r.lt
  have bs_r : w.heap.size ≤ r := by omega
  have ne_q_r : q ≠ r := by omega
  clear hb0 s0 x0 hE0 hb1 s1 x1 hE1
  have hok : TrsOk [] E1.heap.size ([] : List Trk) := ⟨by simp, by simp, by simp, by simp⟩
  refine wp_region_text (InvN [] (fun j u => match j with | 0 => u = .pointer (some ⟨q, 0, none⟩) | 1 => u = .agg (bcells (f)) | _ => True) (fun j => match j with | 2 => some (tf (V (f))) | 3 => some ((0) - (tf (V (f)))) | 4 => some ((0) - (tf (V (f)))) | _ => none) (fun _ => none) [] E1) plan_49_1 [(4, 0), (5, 1), (6, 2), (7, 3), (3, 4)] 15 rfl (by kernel_rfl) (InvN.of (Inv.start0 hok (by simp))) ⟨?_, ?_, ?_, ?_, ?_, trivial⟩ ?_
  · intro L v w hL hD hC hI
    refine ⟨fun _ => ?_, fun hw => by cases hw⟩
    refine hI.val0 hL (by simp) rfl rfl ?_
    rw [show readsOf plan_49_1 0 = [] from rfl]
    go_simp
    exact ⟨rfl, Ext.refl _⟩
  · intro L v w hL hD hC hI
    refine ⟨fun _ => ?_, fun hw => by cases hw⟩
    have h0 : (v 0) = .pointer (some ⟨q, 0, none⟩) := hI.inv.val 0 (hD 0 (by decide))
    refine hI.val0 hL (by simp) rfl rfl ?_
    rw [show readsOf plan_49_1 1 = [(4, 0)] from rfl]
    exact ld_Px (R_q.keep hI.inv.keep (by simp)) _ rfl h0 fun u hu => ⟨hu, Ext.refl _⟩
  · intro L v w hL hD hC hI
    refine ⟨fun _ => ?_, fun hw => by cases hw⟩
    have h1 : (v 1) = .agg (bcells (f)) := hI.inv.val 1 (hD 1 (by decide))
    refine hI.numv _ hL (by simp) rfl rfl (fun _ => trivial) ?_
    rw [show readsOf plan_49_1 2 = [(5, 1)] from rfl]
    refine give_call _ _ _ _ rfl rfl Try.func15 (by kernel_rfl) (by kernel_rfl) ?_
    refine Calls.mono (calls_eq (nin (f) w) (args' := #[v 1]) (by rw [h1])) ?_
    rintro e w' ⟨r, rfl, hr, hx⟩
    exact ⟨r, rfl, hr, hx⟩
  · intro L v w hL hD hC hI
    refine ⟨fun _ => ?_, fun hw => by cases hw⟩
    have h2 : NF w (v 2) (tf (V (f))) := hI.num.n 2 _ (hD 2 (by decide)) rfl
    refine hI.numv _ hL (by simp) rfl rfl (fun _ => trivial) ?_
    rw [show readsOf plan_49_1 3 = [(6, 2)] from rfl]
    refine give_call _ _ _ _ rfl rfl Try.func24 (by kernel_rfl) (by kernel_rfl) ?_
    refine Calls.mono (nsub (NF.nil _) h2) ?_
    rintro e w' ⟨r, rfl, hr, hx⟩
    exact ⟨r, rfl, hr, hx⟩
  · intro L v w hL hD hC hI
    refine ⟨fun _ => ?_, fun hw => by cases hw⟩
    have h3 : NF w (v 3) ((0) - (tf (V (f)))) := hI.num.n 3 _ (hD 3 (by decide)) rfl
    refine hI.numv _ hL (by simp) rfl rfl (fun _ => trivial) ?_
    rw [show readsOf plan_49_1 4 = [(7, 3)] from rfl]
    exact ⟨h3, Ext.refl _⟩
  intro L v1 W1 hL hI
  replace R_q := R_q.keep hI.inv.keep (by simp)
  replace R_r := R_r.keep hI.inv.keep (by simp)
  replace lt_q := Nat.lt_of_lt_of_le lt_q hI.inv.keep.size
  replace lt_r := Nat.lt_of_lt_of_le lt_r hI.inv.keep.size
  have hx' : Ext w W1 := hx.trans hI.inv.keep.to_ext
  have hn_3 := hI.num.n 4 _ (hL 4 (by decide)) rfl
  clear hx hI hL hok L
  have hx := hx'
  clear hx'
  simp only [putP, Act.put, List.setIfInBounds_toArray, List.set_cons_zero, List.set_cons_succ]
  go_upto_region 2 with fail
  have hok : TrsOk [r] W1.heap.size ([⟨none, r, 43, some 7, fun cs => (Value.agg (List.toArray cs)) = .agg (pc (fun _ => 0) (fun _ => 0)), fun cs => (Value.agg (List.toArray cs)) = .agg (pc (fb ((0) - (tf (V (f))))) (fb (tf (V (g)))))⟩] : List Trk) := ⟨by simp [R_r.lt], by simp, by simp, by simp⟩
  have noi_r : NoI W1 r := R_r.noP
  refine wp_region_plan (InvN [r] (fun j u => match j with | 1 => u = .agg (bcells (fb ((0) - (tf (V (f)))))) | 2 => u = .pointer (some ⟨q, 32, none⟩) | 3 => u = .agg (bcells (g)) | 5 => u = .agg (bcells (fb (tf (V (g))))) | 6 => u = .agg (pc (fb ((0) - (tf (V (f))))) (fb (tf (V (g))))) | _ => True) (fun j => match j with | 0 => some ((0) - (tf (V (f)))) | 4 => some (tf (V (g))) | _ => none) (fun _ => none) [⟨none, r, 43, some 7, fun cs => (Value.agg (List.toArray cs)) = .agg (pc (fun _ => 0) (fun _ => 0)), fun cs => (Value.agg (List.toArray cs)) = .agg (pc (fb ((0) - (tf (V (f))))) (fb (tf (V (g)))))⟩] W1) plan_49_2 [(8, 0), (9, 1), (10, 2), (11, 3), (12, 4), (13, 5), (14, 6)] 15 (by kernel_rfl) rfl (by kernel_rfl) (InvN.of (Inv.start hok (by
      simp only [List.forall_mem_cons, List.not_mem_nil, false_implies, implies_true, and_true]
      exact fun _ => R_r))) ⟨?_, ?_, ?_, ?_, ?_, ?_, ?_, ?_, trivial⟩ ?_
  · intro L v w hL hD hC hI
    refine ⟨fun _ => ?_, fun hw => by cases hw⟩
    refine hI.numv _ hL (by simp) rfl rfl (fun _ => trivial) ?_
    rw [show readsOf plan_49_2 0 = [] from rfl]
    exact ⟨hn_3.keep hI.inv.keep (by simp [noi_r]), Ext.refl _⟩
  · intro L v w hL hD hC hI
    refine ⟨fun _ => ?_, fun hw => by cases hw⟩
    have h0 : NF w (v 0) ((0) - (tf (V (f)))) := hI.num.n 0 _ (hD 0 (by decide)) rfl
    refine hI.val0 hL (by simp) rfl rfl ?_
    rw [show readsOf plan_49_2 1 = [(8, 0)] from rfl]
    refine give_call _ _ _ _ rfl rfl Try.func17 (by kernel_rfl) (by kernel_rfl) ?_
    refine Calls.mono (nbytes h0) ?_
    rintro e w' ⟨rfl, hx⟩
    exact ⟨_, rfl, rfl, hx⟩
  · intro L v w hL hD hC hI
    refine ⟨fun _ => ?_, fun hw => by cases hw⟩
    refine hI.val0 hL (by simp) rfl rfl ?_
    rw [show readsOf plan_49_2 2 = [] from rfl]
    go_simp
    exact ⟨rfl, Ext.refl _⟩
  · intro L v w hL hD hC hI
    refine ⟨fun _ => ?_, fun hw => by cases hw⟩
    have h2 : (v 2) = .pointer (some ⟨q, 32, none⟩) := hI.inv.val 2 (hD 2 (by decide))
    refine hI.val0 hL (by simp) rfl rfl ?_
    rw [show readsOf plan_49_2 3 = [(10, 2)] from rfl]
    exact ld_Py (R_q.keep hI.inv.keep (by simp [ne_q_r, Ne.symm ne_q_r])) _ rfl h2 fun u hu => ⟨hu, Ext.refl _⟩
  · intro L v w hL hD hC hI
    refine ⟨fun _ => ?_, fun hw => by cases hw⟩
    have h3 : (v 3) = .agg (bcells (g)) := hI.inv.val 3 (hD 3 (by decide))
    refine hI.numv _ hL (by simp) rfl rfl (fun _ => trivial) ?_
    rw [show readsOf plan_49_2 4 = [(11, 3)] from rfl]
    refine give_call _ _ _ _ rfl rfl Try.func15 (by kernel_rfl) (by kernel_rfl) ?_
    refine Calls.mono (calls_eq (nin (g) w) (args' := #[v 3]) (by rw [h3])) ?_
    rintro e w' ⟨r, rfl, hr, hx⟩
    exact ⟨r, rfl, hr, hx⟩
  · intro L v w hL hD hC hI
    refine ⟨fun _ => ?_, fun hw => by cases hw⟩
    have h4 : NF w (v 4) (tf (V (g))) := hI.num.n 4 _ (hD 4 (by decide)) rfl
    refine hI.val0 hL (by simp) rfl rfl ?_
    rw [show readsOf plan_49_2 5 = [(12, 4)] from rfl]
    refine give_call _ _ _ _ rfl rfl Try.func17 (by kernel_rfl) (by kernel_rfl) ?_
    refine Calls.mono (nbytes h4) ?_
    rintro e w' ⟨rfl, hx⟩
    exact ⟨_, rfl, rfl, hx⟩
  · intro L v w hL hD hC hI
    refine ⟨fun _ => ?_, fun hw => by cases hw⟩
    have h1 : (v 1) = .agg (bcells (fb ((0) - (tf (V (f)))))) := hI.inv.val 1 (hD 1 (by decide))
    have h5 : (v 5) = .agg (bcells (fb (tf (V (g))))) := hI.inv.val 5 (hD 5 (by decide))
    refine hI.val0 hL (by simp) rfl rfl ?_
    rw [show readsOf plan_49_2 6 = [(9, 1), (13, 5)] from rfl]
    exact bd_P _ _ rfl h1 h5 fun u hu => ⟨hu, Ext.refl _⟩
  · intro L v w hL hD hC hI
    refine ⟨fun _ => ?_, fun hw => by cases hw⟩
    have h6 : (v 6) = .agg (pc (fb ((0) - (tf (V (f))))) (fb (tf (V (g))))) := hI.inv.val 6 (hD 6 (by decide))
    refine InvN.store_step hok hI hL ⟨none, r, 43, some 7, fun cs => (Value.agg (List.toArray cs)) = .agg (pc (fun _ => 0) (fun _ => 0)), fun cs => (Value.agg (List.toArray cs)) = .agg (pc (fb ((0) - (tf (V (f))))) (fb (tf (V (g)))))⟩ (by simp) rfl (by simp) (by intro k hk; cases hk) rfl rfl (fun cs h => by rw [pcL_of h]; exact noI_pc _ _) ?_
    intro n cs hb hR hold
    change n = r at hb
    subst hb
    rw [show readsOf plan_49_2 7 = [(14, 6)] from rfl]
    exact st_P hR (by rw [pcL_of hold]; exact pcL_len _ _) _ _ rfl rfl h6 fun w' cs' hr he hk => ⟨trivial, hk, cs', hr, he⟩
  intro L v2 W2 hL hI
  have N_r : RV W2 r 43 (fun u => u = .agg (pc (fb ((0) - (tf (V (f))))) (fb (tf (V (g)))))) := hI.inv.row_new ⟨none, r, 43, some 7, fun cs => (Value.agg (List.toArray cs)) = .agg (pc (fun _ => 0) (fun _ => 0)), fun cs => (Value.agg (List.toArray cs)) = .agg (pc (fb ((0) - (tf (V (f))))) (fb (tf (V (g)))))⟩ (by simp) rfl 7 rfl (hL 7 (by decide))
  replace R_q := R_q.keep hI.inv.keep (by simp [ne_q_r, Ne.symm ne_q_r])
  replace hn_3 := hn_3.keep hI.inv.keep (by simp [noi_r])
  clear noi_r
  clear R_r
  have R_r := N_r
  clear N_r
  replace lt_q := Nat.lt_of_lt_of_le lt_q hI.inv.keep.size
  replace lt_r := Nat.lt_of_lt_of_le lt_r hI.inv.keep.size
  have hx' : Ext w W2 := Ext.keep_ hx hI.inv.keep (by simp only [List.forall_mem_cons, List.not_mem_nil, false_implies, implies_true, and_true]; exact bs_r)
  clear hx hI hL hok L
  have hx := hx'
  clear hx'
  simp only [putP, Act.put, List.setIfInBounds_toArray, List.set_cons_zero, List.set_cons_succ]
  go_wp2
  refine bodyPost_ret (results_P1 rfl _ R_r rfl) rfl ⟨rfl, hx⟩
set_option maxRecDepth 20000 in
set_option maxHeartbeats 8000000 in
theorem renc (f g : Nat → UInt8) (w : World) :
    Calls Try.prog 55 #[.agg (pc f g)] w fun e w' => e = .returned (.agg (bcells (encF (tf (V f)) (tf (V g))))) ∧ Ext w w' := by
  go_enter Try.func55, Try.ntmps55
  go_upto_region 1 with fail
  obtain ⟨E0, hE0⟩ : ∃ W, W = w.alloc (.cells (pc f g) 43) := ⟨_, rfl⟩
  obtain ⟨E1, hE1⟩ : ∃ W, W = E0.alloc (.cells (bcells fun _ => 0) 22) := ⟨_, rfl⟩
  rw [← hE0, ← hE1]
  have s0 : E0.heap.size = w.heap.size + 1 := by rw [hE0]; exact Array.size_push _
  have x0 : Ext w E0 := by rw [hE0]; exact ext_alloc _ _
  have s1 : E1.heap.size = w.heap.size + 1 + 1 := by rw [hE1, ← s0]; exact Array.size_push _
  have x1 : Ext E0 E1 := by rw [hE1]; exact ext_alloc _ _
  have R_q := RV.newP w f g 43
  rw [← hE0] at R_q
  replace R_q := R_q.ext x1
  have R_r := RV.newB E0 (fun _ => 0) 22
  rw [← hE1] at R_r
  rw [s0] at R_r
  obtain ⟨q, hb0⟩ : ∃ b, b = w.heap.size := ⟨_, rfl⟩
  obtain ⟨r, hb1⟩ : ∃ b, b = w.heap.size + 1 := ⟨_, rfl⟩
  rw [← hb1] at R_r
  rw [← hb0] at R_q
  rw [← hb1, ← hb0]
  have hx : Ext w E1 := ((Ext.refl w).trans x0).trans x1
  have lt_q : q < E1.heap.size := R_q.lt
  have bs_q : w.heap.size ≤ q := by omega
  have lt_r : r < E1.heap.size := R_r.lt
  have bs_r : w.heap.size ≤ r := by omega
  have ne_q_r : q ≠ r := by omega
  clear hb0 s0 x0 hE0 hb1 s1 x1 hE1
  have hok : TrsOk [] E1.heap.size ([⟨some 4, 0, 22, some 5, fun cs => (Value.agg (List.toArray cs)) = .agg (bcells (fun _ => 0)), fun cs => (Value.agg (List.toArray cs)) = .agg (bcells (fb (tf (V (f)))))⟩] : List Trk) := ⟨by simp, by simp, by simp, by simp⟩
  refine wp_region_text (InvN [] (fun j u => match j with | 0 => u = .pointer (some ⟨q, 0, none⟩) | 1 => u = .agg (bcells (f)) | 3 => u = .agg (bcells (fb (tf (V (f))))) | _ => True) (fun j => match j with | 2 => some (tf (V (f))) | _ => none) (fun _ => none) [⟨some 4, 0, 22, some 5, fun cs => (Value.agg (List.toArray cs)) = .agg (bcells (fun _ => 0)), fun cs => (Value.agg (List.toArray cs)) = .agg (bcells (fb (tf (V (f)))))⟩] E1) plan_55_1 [(5, 0), (6, 1), (7, 2), (8, 3), (3, 4)] 22 rfl (by kernel_rfl) (InvN.of (Inv.start0 hok (by simp))) ⟨?_, ?_, ?_, ?_, ?_, ?_, trivial⟩ ?_
  · intro L v w hL hD hC hI
    refine ⟨fun _ => ?_, fun hw => by cases hw⟩
    refine hI.val0 hL (by simp) rfl rfl ?_
    rw [show readsOf plan_55_1 0 = [] from rfl]
    go_simp
    exact ⟨rfl, Ext.refl _⟩
  · intro L v w hL hD hC hI
    refine ⟨fun _ => ?_, fun hw => by cases hw⟩
    have h0 : (v 0) = .pointer (some ⟨q, 0, none⟩) := hI.inv.val 0 (hD 0 (by decide))
    refine hI.val0 hL (by simp) rfl rfl ?_
    rw [show readsOf plan_55_1 1 = [(5, 0)] from rfl]
    exact ld_Px (R_q.keep hI.inv.keep (by simp)) _ rfl h0 fun u hu => ⟨hu, Ext.refl _⟩
  · intro L v w hL hD hC hI
    refine ⟨fun _ => ?_, fun hw => by cases hw⟩
    have h1 : (v 1) = .agg (bcells (f)) := hI.inv.val 1 (hD 1 (by decide))
    refine hI.numv _ hL (by simp) rfl rfl (fun _ => trivial) ?_
    rw [show readsOf plan_55_1 2 = [(6, 1)] from rfl]
    refine give_call _ _ _ _ rfl rfl Try.func15 (by kernel_rfl) (by kernel_rfl) ?_
    refine Calls.mono (calls_eq (nin (f) w) (args' := #[v 1]) (by rw [h1])) ?_
    rintro e w' ⟨r, rfl, hr, hx⟩
    exact ⟨r, rfl, hr, hx⟩
  · intro L v w hL hD hC hI
    refine ⟨fun _ => ?_, fun hw => by cases hw⟩
    have h2 : NF w (v 2) (tf (V (f))) := hI.num.n 2 _ (hD 2 (by decide)) rfl
    refine hI.val0 hL (by simp) rfl rfl ?_
    rw [show readsOf plan_55_1 3 = [(7, 2)] from rfl]
    refine give_call _ _ _ _ rfl rfl Try.func17 (by kernel_rfl) (by kernel_rfl) ?_
    refine Calls.mono (nbytes h2) ?_
    rintro e w' ⟨rfl, hx⟩
    exact ⟨_, rfl, rfl, hx⟩
  · intro L v w hL hD hC hI
    refine ⟨fun _ => ?_, fun hw => by cases hw⟩
    refine InvN.alloc_step hok hI hL ⟨some 4, 0, 22, some 5, fun cs => (Value.agg (List.toArray cs)) = .agg (bcells (fun _ => 0)), fun cs => (Value.agg (List.toArray cs)) = .agg (bcells (fb (tf (V (f)))))⟩ (by simp) rfl (by simp) (by intro s hs; cases hs; exact not_yet hC hL (by decide)) rfl rfl ?_
    rw [show readsOf plan_55_1 4 = [] from rfl]
    go_simp
    first | exact ⟨rfl, pcL (fun _ => 0) (fun _ => 0), rfl, rfl⟩ | exact ⟨trivial, rfl, pcL (fun _ => 0) (fun _ => 0), rfl, rfl⟩ | exact ⟨rfl, (bcells fun _ => 0).toList, by rw [Array.toArray_toList], by rw [Array.toArray_toList]⟩
  · intro L v w hL hD hC hI
    refine ⟨fun _ => ?_, fun hw => by cases hw⟩
    have h3 : (v 3) = .agg (bcells (fb (tf (V (f))))) := hI.inv.val 3 (hD 3 (by decide))
    refine InvN.store_step hok hI hL ⟨some 4, 0, 22, some 5, fun cs => (Value.agg (List.toArray cs)) = .agg (bcells (fun _ => 0)), fun cs => (Value.agg (List.toArray cs)) = .agg (bcells (fb (tf (V (f)))))⟩ (by simp) rfl (by simp) (by intro k hk; cases hk; exact hD 4 (by decide)) rfl rfl (fun cs h => by rw [bL_of h]; exact noI_b _) ?_
    intro n cs hb hR hold
    change v 4 = .pointer (some ⟨n, 0, none⟩) at hb
    rw [show readsOf plan_55_1 5 = [(8, 3), (3, 4)] from rfl]
    exact st_B hR (by rw [bL_of hold]; simp) _ _ rfl hb h3 fun w' cs' hr he hk => ⟨trivial, hk, cs', hr, he⟩
  intro L v1 W1 hL hI
  obtain ⟨n3, cs, hb_n3, lo_n3, hr, hn, ho⟩ := hI.inv.row_made ⟨some 4, 0, 22, some 5, fun cs => (Value.agg (List.toArray cs)) = .agg (bcells (fun _ => 0)), fun cs => (Value.agg (List.toArray cs)) = .agg (bcells (fb (tf (V (f)))))⟩ (by simp) 4 rfl (hL 4 (by decide))
  have R_n3 : RV W1 n3 22 (fun u => u = .agg (bcells (fb (tf (V (f)))))) := ⟨cs, hr, hn 5 rfl (hL 5 (by decide))⟩
  clear hr hn ho
  replace R_q := R_q.keep hI.inv.keep (by simp)
  replace R_r := R_r.keep hI.inv.keep (by simp)
  have ne_q_n3 : q ≠ n3 := Nat.ne_of_lt (Nat.lt_of_lt_of_le lt_q lo_n3)
  have ne_r_n3 : r ≠ n3 := Nat.ne_of_lt (Nat.lt_of_lt_of_le lt_r lo_n3)
  replace lt_q := Nat.lt_of_lt_of_le lt_q hI.inv.keep.size
  replace lt_r := Nat.lt_of_lt_of_le lt_r hI.inv.keep.size
  have hx' : Ext w W1 := hx.trans hI.inv.keep.to_ext
  have lt_n3 : n3 < W1.heap.size := R_n3.lt
  have bs_n3 : w.heap.size ≤ n3 := Nat.le_trans hx.size lo_n3
  clear hx hI hL hok L
  have hx := hx'
  clear hx'
  simp only [putP, Act.put, List.setIfInBounds_toArray, List.set_cons_zero, List.set_cons_succ, hb_n3]
  go_upto_region 2 with fail
  have hok : TrsOk [] W1.heap.size ([⟨some 4, 0, 22, some 5, fun cs => (Value.agg (List.toArray cs)) = .agg (bcells (fun _ => 0)), fun cs => (Value.agg (List.toArray cs)) = .agg (bcells (fb (tf (V (g)))))⟩] : List Trk) := ⟨by simp, by simp, by simp, by simp⟩
  refine wp_region_text (InvN [] (fun j u => match j with | 0 => u = .pointer (some ⟨q, 32, none⟩) | 1 => u = .agg (bcells (g)) | 3 => u = .agg (bcells (fb (tf (V (g))))) | _ => True) (fun j => match j with | 2 => some (tf (V (g))) | _ => none) (fun _ => none) [⟨some 4, 0, 22, some 5, fun cs => (Value.agg (List.toArray cs)) = .agg (bcells (fun _ => 0)), fun cs => (Value.agg (List.toArray cs)) = .agg (bcells (fb (tf (V (g)))))⟩] W1) plan_55_2 [(9, 0), (10, 1), (11, 2), (12, 3), (4, 4)] 22 rfl (by kernel_rfl) (InvN.of (Inv.start0 hok (by simp))) ⟨?_, ?_, ?_, ?_, ?_, ?_, trivial⟩ ?_
  · intro L v w hL hD hC hI
    refine ⟨fun _ => ?_, fun hw => by cases hw⟩
    refine hI.val0 hL (by simp) rfl rfl ?_
    rw [show readsOf plan_55_2 0 = [] from rfl]
    go_simp
    exact ⟨rfl, Ext.refl _⟩
  · intro L v w hL hD hC hI
    refine ⟨fun _ => ?_, fun hw => by cases hw⟩
    have h0 : (v 0) = .pointer (some ⟨q, 32, none⟩) := hI.inv.val 0 (hD 0 (by decide))
    refine hI.val0 hL (by simp) rfl rfl ?_
    rw [show readsOf plan_55_2 1 = [(9, 0)] from rfl]
    exact ld_Py (R_q.keep hI.inv.keep (by simp)) _ rfl h0 fun u hu => ⟨hu, Ext.refl _⟩
  · intro L v w hL hD hC hI
    refine ⟨fun _ => ?_, fun hw => by cases hw⟩
    have h1 : (v 1) = .agg (bcells (g)) := hI.inv.val 1 (hD 1 (by decide))
    refine hI.numv _ hL (by simp) rfl rfl (fun _ => trivial) ?_
    rw [show readsOf plan_55_2 2 = [(10, 1)] from rfl]
    refine give_call _ _ _ _ rfl rfl Try.func15 (by kernel_rfl) (by kernel_rfl) ?_
    refine Calls.mono (calls_eq (nin (g) w) (args' := #[v 1]) (by rw [h1])) ?_
    rintro e w' ⟨r, rfl, hr, hx⟩
    exact ⟨r, rfl, hr, hx⟩
  · intro L v w hL hD hC hI
    refine ⟨fun _ => ?_, fun hw => by cases hw⟩
    have h2 : NF w (v 2) (tf (V (g))) := hI.num.n 2 _ (hD 2 (by decide)) rfl
    refine hI.val0 hL (by simp) rfl rfl ?_
    rw [show readsOf plan_55_2 3 = [(11, 2)] from rfl]
    refine give_call _ _ _ _ rfl rfl Try.func17 (by kernel_rfl) (by kernel_rfl) ?_
    refine Calls.mono (nbytes h2) ?_
    rintro e w' ⟨rfl, hx⟩
    exact ⟨_, rfl, rfl, hx⟩
  · intro L v w hL hD hC hI
    refine ⟨fun _ => ?_, fun hw => by cases hw⟩
    refine InvN.alloc_step hok hI hL ⟨some 4, 0, 22, some 5, fun cs => (Value.agg (List.toArray cs)) = .agg (bcells (fun _ => 0)), fun cs => (Value.agg (List.toArray cs)) = .agg (bcells (fb (tf (V (g)))))⟩ (by simp) rfl (by simp) (by intro s hs; cases hs; exact not_yet hC hL (by decide)) rfl rfl ?_
    rw [show readsOf plan_55_2 4 = [] from rfl]
    go_simp
    first | exact ⟨rfl, pcL (fun _ => 0) (fun _ => 0), rfl, rfl⟩ | exact ⟨trivial, rfl, pcL (fun _ => 0) (fun _ => 0), rfl, rfl⟩ | exact ⟨rfl, (bcells fun _ => 0).toList, by rw [Array.toArray_toList], by rw [Array.toArray_toList]⟩
  · intro L v w hL hD hC hI
    refine ⟨fun _ => ?_, fun hw => by cases hw⟩
    have h3 : (v 3) = .agg (bcells (fb (tf (V (g))))) := hI.inv.val 3 (hD 3 (by decide))
    refine InvN.store_step hok hI hL ⟨some 4, 0, 22, some 5, fun cs => (Value.agg (List.toArray cs)) = .agg (bcells (fun _ => 0)), fun cs => (Value.agg (List.toArray cs)) = .agg (bcells (fb (tf (V (g)))))⟩ (by simp) rfl (by simp) (by intro k hk; cases hk; exact hD 4 (by decide)) rfl rfl (fun cs h => by rw [bL_of h]; exact noI_b _) ?_
    intro n cs hb hR hold
    change v 4 = .pointer (some ⟨n, 0, none⟩) at hb
    rw [show readsOf plan_55_2 5 = [(12, 3), (4, 4)] from rfl]
    exact st_B hR (by rw [bL_of hold]; simp) _ _ rfl hb h3 fun w' cs' hr he hk => ⟨trivial, hk, cs', hr, he⟩
  intro L v2 W2 hL hI
  obtain ⟨n4, cs, hb_n4, lo_n4, hr, hn, ho⟩ := hI.inv.row_made ⟨some 4, 0, 22, some 5, fun cs => (Value.agg (List.toArray cs)) = .agg (bcells (fun _ => 0)), fun cs => (Value.agg (List.toArray cs)) = .agg (bcells (fb (tf (V (g)))))⟩ (by simp) 4 rfl (hL 4 (by decide))
  have R_n4 : RV W2 n4 22 (fun u => u = .agg (bcells (fb (tf (V (g)))))) := ⟨cs, hr, hn 5 rfl (hL 5 (by decide))⟩
  clear hr hn ho
  replace R_q := R_q.keep hI.inv.keep (by simp)
  replace R_r := R_r.keep hI.inv.keep (by simp)
  replace R_n3 := R_n3.keep hI.inv.keep (by simp)
  have ne_q_n4 : q ≠ n4 := Nat.ne_of_lt (Nat.lt_of_lt_of_le lt_q lo_n4)
  have ne_r_n4 : r ≠ n4 := Nat.ne_of_lt (Nat.lt_of_lt_of_le lt_r lo_n4)
  have ne_n3_n4 : n3 ≠ n4 := Nat.ne_of_lt (Nat.lt_of_lt_of_le lt_n3 lo_n4)
  replace lt_q := Nat.lt_of_lt_of_le lt_q hI.inv.keep.size
  replace lt_r := Nat.lt_of_lt_of_le lt_r hI.inv.keep.size
  replace lt_n3 := Nat.lt_of_lt_of_le lt_n3 hI.inv.keep.size
  have hx' : Ext w W2 := hx.trans hI.inv.keep.to_ext
  have lt_n4 : n4 < W2.heap.size := R_n4.lt
  have bs_n4 : w.heap.size ≤ n4 := Nat.le_trans hx.size lo_n4
  clear hx hI hL hok L
  have hx := hx'
  clear hx'
  simp only [putP, Act.put, List.setIfInBounds_toArray, List.set_cons_zero, List.set_cons_succ, hb_n4]
  have e1 := R_n4.byte (i := 31) (by decide)
  have e2 := R_n3.byte (i := 0) (by decide)
  have e3 := R_n4.fro 31
  have hv := add_top (fb (tf (V (g))) 31) (fb (tf (V (f))) 0) (fb_top_ _)
  go_upto_region 4 with fail
  first | rw [hv] | skip
  obtain ⟨W4, hW4⟩ : ∃ W4, W4 = W2.setCell ⟨n4, 31, none⟩ (.int .u8 (n8 (fb (tf (V (g))) 31 ||| fb (tf (V (f))) 0 <<< 7))) := ⟨_, rfl⟩
  rw [← hW4]
  have hk : Keep [n4] W2 W4 := by rw [hW4]; exact Keep.setCell _ ⟨n4, 31, none⟩ _
  have R5 := R_n4.set 31 (fb (tf (V (g))) 31 ||| fb (tf (V (f))) 0 <<< 7)
  rw [← hW4] at R5
  clear R_n4 R_n3 e1 e2 e3 hv
  have R_n4 : RV W4 n4 22 (fun u => u = .agg (bcells (encF (tf (V f)) (tf (V g))))) := R5
  clear R5
  replace R_r := R_r.keep hk (by simp [ne_r_n4, Ne.symm ne_r_n4])
  clear R_q
  replace hx := Ext.keep_ hx hk (by simpa using bs_n4)
  clear hW4
  replace lt_q := Nat.lt_of_lt_of_le lt_q hk.size
  replace lt_r := Nat.lt_of_lt_of_le lt_r hk.size
  replace lt_n3 := Nat.lt_of_lt_of_le lt_n3 hk.size
  replace lt_n4 := Nat.lt_of_lt_of_le lt_n4 hk.size
  have hok : TrsOk [r] W4.heap.size ([⟨none, r, 22, some 1, fun cs => (Value.agg (List.toArray cs)) = .agg (bcells (fun _ => 0)), fun cs => (Value.agg (List.toArray cs)) = .agg (bcells (encF (tf (V f)) (tf (V g))))⟩] : List Trk) := ⟨by simp [R_r.lt], by simp, by simp, by simp⟩
  have noi_r : NoI W4 r := R_r.noB
  refine wp_region_text (InvN [r] (fun j u => match j with | 0 => u = .agg (bcells (encF (tf (V f)) (tf (V g)))) | _ => True) (fun _ => none) (fun _ => none) [⟨none, r, 22, some 1, fun cs => (Value.agg (List.toArray cs)) = .agg (bcells (fun _ => 0)), fun cs => (Value.agg (List.toArray cs)) = .agg (bcells (encF (tf (V f)) (tf (V g))))⟩] W4) plan_55_4 [(21, 0)] 22 rfl (by kernel_rfl) (InvN.of (Inv.start0 hok (by
      simp only [List.forall_mem_cons, List.not_mem_nil, false_implies, implies_true, and_true]
      exact fun _ => R_r))) ⟨?_, ?_, trivial⟩ ?_
  · intro L v w hL hD hC hI
    refine ⟨fun _ => ?_, fun hw => by cases hw⟩
    refine hI.val0 hL (by simp) rfl rfl ?_
    rw [show readsOf plan_55_4 0 = [] from rfl]
    exact ld_B (R_n4.keep hI.inv.keep (by simp [ne_r_n4, Ne.symm ne_r_n4])) _ rfl rfl fun u hu => ⟨hu, Ext.refl _⟩
  · intro L v w hL hD hC hI
    refine ⟨fun _ => ?_, fun hw => by cases hw⟩
    have h0 : (v 0) = .agg (bcells (encF (tf (V f)) (tf (V g)))) := hI.inv.val 0 (hD 0 (by decide))
    refine InvN.store_step hok hI hL ⟨none, r, 22, some 1, fun cs => (Value.agg (List.toArray cs)) = .agg (bcells (fun _ => 0)), fun cs => (Value.agg (List.toArray cs)) = .agg (bcells (encF (tf (V f)) (tf (V g))))⟩ (by simp) rfl (by simp) (by intro k hk; cases hk) rfl rfl (fun cs h => by rw [bL_of h]; exact noI_b _) ?_
    intro n cs hb hR hold
    change n = r at hb
    subst hb
    rw [show readsOf plan_55_4 1 = [(21, 0)] from rfl]
    exact st_B hR (by rw [bL_of hold]; simp) _ _ rfl rfl h0 fun w' cs' hr he hk => ⟨trivial, hk, cs', hr, he⟩
  intro L v3 W3 hL hI
  have N_r : RV W3 r 22 (fun u => u = .agg (bcells (encF (tf (V f)) (tf (V g))))) := hI.inv.row_new ⟨none, r, 22, some 1, fun cs => (Value.agg (List.toArray cs)) = .agg (bcells (fun _ => 0)), fun cs => (Value.agg (List.toArray cs)) = .agg (bcells (encF (tf (V f)) (tf (V g))))⟩ (by simp) rfl 1 rfl (hL 1 (by decide))
  replace R_n4 := R_n4.keep hI.inv.keep (by simp [ne_r_n4, Ne.symm ne_r_n4])
  clear noi_r
  clear R_r
  have R_r := N_r
  clear N_r
  replace lt_q := Nat.lt_of_lt_of_le lt_q hI.inv.keep.size
  replace lt_r := Nat.lt_of_lt_of_le lt_r hI.inv.keep.size
  replace lt_n3 := Nat.lt_of_lt_of_le lt_n3 hI.inv.keep.size
  replace lt_n4 := Nat.lt_of_lt_of_le lt_n4 hI.inv.keep.size
  have hx' : Ext w W3 := Ext.keep_ hx hI.inv.keep (by simp only [List.forall_mem_cons, List.not_mem_nil, false_implies, implies_true, and_true]; exact bs_r)
  clear hx hI hL hok L
  have hx := hx'
  clear hx'
  simp only [putP, Act.put, List.setIfInBounds_toArray, List.set_cons_zero, List.set_cons_succ]
  go_wp2
  refine bodyPost_ret (results_B1 rfl _ R_r rfl) rfl ⟨rfl, hx⟩
end Go.Proofs.Ytndohjgfjbopnaa
