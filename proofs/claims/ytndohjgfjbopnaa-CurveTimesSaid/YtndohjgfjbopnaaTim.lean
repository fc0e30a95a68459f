/-
  The document's answer of layer 7: a number times a point.
-/
import Derived.Test.YtndohjgfjbopnaaTimI
set_option linter.unusedSimpArgs false
set_option linter.unusedVariables false
namespace Go.Proofs.Ytndohjgfjbopnaa
set_option maxRecDepth 20000
open Go.RowKit Go.Cv Go.Cv.Pr Go.Cv.Grp Go.Cv.Dig
def plan_51_1 : List Plan := [⟨[], []⟩, ⟨[], []⟩, ⟨[0, 1], [(9, 0), (7, 1)]⟩]
def plan_51_5 : List Plan := [⟨[], []⟩, ⟨[], []⟩, ⟨[], []⟩, ⟨[0, 1, 2], [(18, 0), (19, 1), (20, 2)]⟩, ⟨[0, 1, 2, 3], [(21, 3)]⟩]
def plan_51_7 : List Plan := [⟨[], []⟩, ⟨[], []⟩, ⟨[], []⟩, ⟨[0, 1, 2], [(32, 0), (33, 1), (34, 2)]⟩, ⟨[0, 1, 2, 3], [(35, 3)]⟩]
def plan_51_8 : List Plan := [⟨[], []⟩, ⟨[0], [(36, 0)]⟩]
set_option maxRecDepth 20000 in
set_option maxHeartbeats 8000000 in
theorem rtimes {w : World} {A : Option Addr} {c : Nat} {f : Nat → UInt8} {v1 v3 : Value} {P : P7} (hr : Rd w A ((blist f).map bv)) (h : NP w v1 P) (hd : NF w v3 C7.d) :
    Calls Try.prog 51 #[.slice A 32 c, v1, v3] w fun e w' => ∃ v, e = .returned v ∧ NP w' v (Pt.mul (V f) P) ∧ Ext w w' := by
  obtain ⟨a1, b1, c1, X, Y, Z, rfl, ha, hb, hc, h3⟩ := h
  have hadd := @radd
  have hnou := rnought
  generalize C7.d = d at hd hadd
  obtain ⟨N, hN⟩ : ∃ N, N = V f := ⟨_, rfl⟩
  have hNb : Hid (∀ i, i < 32 → N / 2 ^ (8 * i) % 256 = (f i).toNat) := Lib.hid (fun i hi => by rw [hN]; exact V_byte f hi)
  have hN0 : N / 2 ^ 256 = 0 := Nat.div_eq_of_lt (by rw [hN]; exact bsum_lt f 32)
  rw [← hN]
  clear hN
  obtain ⟨ad, rfl, hc0⟩ := hr.at_ (k := 0) (by simp [blist])
  have hadw := World.block_lt_of_cell? w _ hc0
  rw [add_block] at hadw
  clear hc0
  go_enter Try.func51, Try.ntmps51
  go_upto_region 1 with fail
  obtain ⟨E0, hE0⟩ : ∃ W, W = w.alloc (.cells #[a1, b1, c1] 60) := ⟨_, rfl⟩
  obtain ⟨E1, hE1⟩ : ∃ W, W = E0.alloc (.cells #[.slice none 0 0, .slice none 0 0, .slice none 0 0] 60) := ⟨_, rfl⟩
  rw [← hE0, ← hE1]
  have s0 : E0.heap.size = w.heap.size + 1 := by rw [hE0]; exact Array.size_push _
  have x0 : Ext w E0 := by rw [hE0]; exact ext_alloc _ _
  have s1 : E1.heap.size = w.heap.size + 1 + 1 := by rw [hE1, ← s0]; exact Array.size_push _
  have x1 : Ext E0 E1 := by rw [hE1]; exact ext_alloc _ _
  have R_q := R3w.new w a1 b1 c1 (ha.ext (Ext.refl w)) (hb.ext (Ext.refl w)) (hc.ext (Ext.refl w))
  rw [← hE0] at R_q
  replace R_q := R_q.ext x1
  have R_r := R3w.new E0 (.slice none 0 0) (.slice none 0 0) (.slice none 0 0) (NF.nil _) (NF.nil _) (NF.nil _)
  rw [← hE1] at R_r
  rw [s0] at R_r
  obtain ⟨q, hb0⟩ : ∃ b, b = w.heap.size := ⟨_, rfl⟩
  obtain ⟨r, hb1⟩ : ∃ b, b = w.heap.size + 1 := ⟨_, rfl⟩
  rw [← hb1] at R_r
  rw [← hb0] at R_q
  rw [← hb1, ← hb0]
  have hx : Ext w E1 := ((Ext.refl w).trans x0).trans x1
  have lt_q : q < E1.heap.size := R_q.lt
  have bs_q : w.heap.size ≤ q := by omega
  have lt_r : r < E1.heap.size := R_r.lt
  have bs_r : w.heap.size ≤ r := by omega
  have ne_q_r : q ≠ r := by omega
  clear hb0 s0 x0 hE0 hb1 s1 x1 hE1
  replace R_q := RN.of3 R_q h3
  clear ha hb hc h3
  replace hd := hd.ext hx
  replace hr := hr.ext hx
  have hok : TrsOk [] E1.heap.size ([⟨some 1, 0, 60, none, fun cs => (Value.agg (List.toArray cs)) = .agg #[.slice none 0 0, .slice none 0 0, .slice none 0 0], fun _ => True⟩] : List Trk) := ⟨by simp, by simp, by simp, by simp⟩
  refine wp_region_text (InvF 2 (fun v w' => ∃ n, v 1 = .pointer (some ⟨n, 0, none⟩) ∧ RN w' n (Pt.zero C7) ∧ E1.heap.size ≤ n ∧ Ext E1 w') (InvN [] (fun _ _ => True) (fun _ => none) (fun j => match j with | 0 => some (Pt.zero C7) | _ => none) [⟨some 1, 0, 60, none, fun cs => (Value.agg (List.toArray cs)) = .agg #[.slice none 0 0, .slice none 0 0, .slice none 0 0], fun _ => True⟩] E1)) plan_51_1 [(9, 0), (7, 1)] 37 rfl (by kernel_rfl) (InvF.start (InvN.of (Inv.start0 hok (by simp)))) ⟨?_, ?_, ?_, trivial⟩ ?_
  · intro L v w hL hD hC hI
    obtain ⟨hI, hF⟩ := hI.step hL hC (by decide) (by decide)
    refine ⟨fun _ => Gives.mono ?_ hF, fun hw => by cases hw⟩
    refine hI.ptv _ hL (by simp) rfl rfl (fun _ => trivial) ?_
    rw [show readsOf plan_51_1 0 = [] from rfl]
    refine give_call _ _ _ _ rfl rfl Try.func87 (by kernel_rfl) (by kernel_rfl) ?_
    refine Calls.mono (hnou w) ?_
    rintro e w' ⟨r, rfl, hr, hx⟩
    exact ⟨r, rfl, hr, hx⟩
  · intro L v w hL hD hC hI
    obtain ⟨hI, hF⟩ := hI.step hL hC (by decide) (by decide)
    refine ⟨fun _ => Gives.mono ?_ hF, fun hw => by cases hw⟩
    refine InvN.alloc_step hok hI hL ⟨some 1, 0, 60, none, fun cs => (Value.agg (List.toArray cs)) = .agg #[.slice none 0 0, .slice none 0 0, .slice none 0 0], fun _ => True⟩ (by simp) rfl (by simp) (by intro s hs; cases hs) rfl rfl ?_
    rw [show readsOf plan_51_1 1 = [] from rfl]
    go_simp
    exact ⟨rfl, rfl⟩
  · intro L v w hL hD hC hI
    obtain ⟨hI, hF⟩ := hI.last hL
    refine ⟨fun _ => Gives.mono ?_ hF, fun hw => by cases hw⟩
    have h0 : NP w (v 0) (Pt.zero C7) := hI.num.p 0 _ (hD 0 (by decide)) rfl
    rw [show readsOf plan_51_1 2 = [(9, 0), (7, 1)] from rfl]
    obtain ⟨n, cs, hb, lo, hr', -, ho⟩ := hI.inv.row_made ⟨some 1, 0, 60, none, fun cs => (Value.agg (List.toArray cs)) = .agg #[.slice none 0 0, .slice none 0 0, .slice none 0 0], fun _ => True⟩ (by simp) 1 rfl (hD 1 (by decide))
    have e := ho (by intro s hs; cases hs)
    injection e with e
    have e2 := congrArg Array.toList e
    simp only at e2
    subst e2
    refine st_N (T := 0) hr' rfl (by simp [noI]) _ _ rfl hb h0 fun w' hr hk => ⟨n, ?_, hr, lo, Ext.keep_ hI.inv.keep.to_ext hk (by simpa using lo)⟩
    show setV v 2 _ 1 = _
    rw [setV_ne (by decide)]
    exact hb
  intro L v1 W1 hL hI
  have hfin := hI.fin (hL 2 (by decide))
  obtain ⟨o, hb_o, R_o, lo_o, hxo⟩ := hfin
  simp only [putP, Act.put, List.setIfInBounds_toArray, List.set_cons_zero, List.set_cons_succ, hb_o]
  have ne_q_o : q ≠ o := Nat.ne_of_lt (Nat.lt_of_lt_of_le lt_q lo_o)
  have ne_r_o : r ≠ o := Nat.ne_of_lt (Nat.lt_of_lt_of_le lt_r lo_o)
  have bs_o : w.heap.size ≤ o := Nat.le_trans hx.size lo_o
  replace R_q := R_q.ext hxo
  replace R_r := R_r.ext hxo
  replace hd := hd.ext hxo
  replace hr := hr.ext hxo
  replace hx := hx.trans hxo
  have hado : ad.block ∉ [o] := by simp; omega
  have lt_o := R_o.lt
  replace lt_q := R_q.lt
  replace lt_r := R_r.lt
  clear lo_o hxo hI hL hok L
  go_upto_region 3 with fail
  go_loopw [8] (fun v8 wr => ∃ (i : Nat) (x : Int), i ≤ 256 ∧ v8 = .int .i64 x ∧ Hid (x + 1 = (i : Int)) ∧ RN wr o (Pt.mul (N / 2 ^ i) P) ∧ Keep [o] W1 wr) (fun v8 _ => (intOf v8 + 1).toNat)
  case atStart => exact ⟨256, _, by decide, rfl, Lib.hid (by decide), by rw [hN0]; exact R_o, Keep.refl _ _⟩
  case round =>
    have noi0 := R_o.noI
    clear R_o
    obtain ⟨i, x, hi, rfl, hxi, R_o, hK⟩ := hrel
    have noi1 : ∀ b ∈ [o], NoI W1 b := by
      intro b hb
      rw [List.mem_singleton.1 hb]
      exact noi0
    replace R_q := R_q.keep hK noi1 (by simp [ne_q_o, Ne.symm ne_q_o])
    replace R_r := R_r.keep hK noi1 (by simp [ne_r_o, Ne.symm ne_r_o])
    replace hd := hd.keep hK noi1
    replace hr := hK.rd hr hado
    replace hx := Ext.keep_ hx hK (by simpa using bs_o)
    clear noi1
    replace lt_q := Nat.lt_of_lt_of_le lt_q hK.size
    replace lt_r := Nat.lt_of_lt_of_le lt_r hK.size
    replace lt_o := Nat.lt_of_lt_of_le lt_o hK.size
    clear noi0
    have hxi' := hxi.out
    by_cases hx0 : 0 ≤ x
    · obtain ⟨m, rfl⟩ : ∃ m : Nat, x = (m : Int) := ⟨x.toNat, by omega⟩
      obtain rfl : i = m + 1 := by omega
      have hv1 : IntKind.i64.wrap ((m : Int) - 1) = (m : Int) - 1 := IntWalk.i64_in _ (by omega)
      have hx4 : Hid ((m : Int) - 1 + 1 = (m : Int)) := Lib.hid (by omega)
      have hm : m < 256 := by omega
      clear hxi hxi'
      obtain ⟨M, hM⟩ : ∃ M, M = N / 2 ^ (m + 1) := ⟨_, rfl⟩
      rw [← hM] at R_o
      have hM2 : N / 2 ^ m = 2 * M + N / 2 ^ m % 2 := by rw [hM, Nat.pow_succ, ← Nat.div_div_eq_div_mul]; omega
      clear hM
      replace hM2 := Lib.hid hM2
      go_upto_region 5 with fail
      have hok : TrsOk [] wr.heap.size ([] : List Trk) := ⟨by simp, by simp, by simp, by simp⟩
      refine wp_region_text (InvF 4 (fun _ w' => RN w' o ((Pt.mul M P).add (Pt.mul M P)) ∧ Keep [o] wr w') (InvN [] (fun _ _ => True) (fun j => match j with | 2 => some (d) | _ => none) (fun j => match j with | 0 => some (Pt.mul M P) | 1 => some (Pt.mul M P) | 3 => some ((Pt.mul M P).add (Pt.mul M P)) | _ => none) [] wr)) plan_51_5 [(18, 0), (19, 1), (20, 2), (21, 3)] 37 rfl (by kernel_rfl) (InvF.start (InvN.of (Inv.start0 hok (by simp)))) ⟨?_, ?_, ?_, ?_, ?_, trivial⟩ ?_
      · intro L v w hL hD hC hI
        obtain ⟨hI, hF⟩ := hI.step hL hC (by decide) (by decide)
        refine ⟨fun _ => Gives.mono ?_ hF, fun hw => by cases hw⟩
        refine hI.ptv _ hL (by simp) rfl rfl (fun _ => trivial) ?_
        rw [show readsOf plan_51_5 0 = [] from rfl]
        exact ld_N (R_o.keep hI.inv.keep (by simp) (by simp)) _ rfl rfl fun u hu => ⟨hu, Ext.refl _⟩
      · intro L v w hL hD hC hI
        obtain ⟨hI, hF⟩ := hI.step hL hC (by decide) (by decide)
        refine ⟨fun _ => Gives.mono ?_ hF, fun hw => by cases hw⟩
        refine hI.ptv _ hL (by simp) rfl rfl (fun _ => trivial) ?_
        rw [show readsOf plan_51_5 1 = [] from rfl]
        exact ld_N (R_o.keep hI.inv.keep (by simp) (by simp)) _ rfl rfl fun u hu => ⟨hu, Ext.refl _⟩
      · intro L v w hL hD hC hI
        obtain ⟨hI, hF⟩ := hI.step hL hC (by decide) (by decide)
        refine ⟨fun _ => Gives.mono ?_ hF, fun hw => by cases hw⟩
        refine hI.numv _ hL (by simp) rfl rfl (fun _ => trivial) ?_
        rw [show readsOf plan_51_5 2 = [] from rfl]
        exact ⟨hd.keep hI.inv.keep (by simp), Ext.refl _⟩
      · intro L v w hL hD hC hI
        obtain ⟨hI, hF⟩ := hI.step hL hC (by decide) (by decide)
        refine ⟨fun _ => Gives.mono ?_ hF, fun hw => by cases hw⟩
        have h0 : NP w (v 0) (Pt.mul M P) := hI.num.p 0 _ (hD 0 (by decide)) rfl
        have h1 : NP w (v 1) (Pt.mul M P) := hI.num.p 1 _ (hD 1 (by decide)) rfl
        have h2 : NF w (v 2) (d) := hI.num.n 2 _ (hD 2 (by decide)) rfl
        refine hI.ptv _ hL (by simp) rfl rfl (fun _ => trivial) ?_
        rw [show readsOf plan_51_5 3 = [(18, 0), (19, 1), (20, 2)] from rfl]
        refine give_call _ _ _ _ rfl rfl Try.func47 (by kernel_rfl) (by kernel_rfl) ?_
        refine Calls.mono (hadd h0 h1 h2) ?_
        rintro e w' ⟨r, rfl, hr, hx⟩
        exact ⟨r, rfl, hr, hx⟩
      · intro L v w hL hD hC hI
        obtain ⟨hI, hF⟩ := hI.last hL
        refine ⟨fun _ => Gives.mono ?_ hF, fun hw => by cases hw⟩
        have h3 : NP w (v 3) ((Pt.mul M P).add (Pt.mul M P)) := hI.num.p 3 _ (hD 3 (by decide)) rfl
        rw [show readsOf plan_51_5 4 = [(21, 3)] from rfl]
        obtain ⟨cs, hr, hN⟩ := R_o.keep hI.inv.keep (by simp) (by simp)
        exact st_N (T := 0) hr hN.cells.1 hN.cells.2 _ _ rfl rfl h3 fun w' hr hk => ⟨hr, (hI.inv.keep.mono (by simp)).same hk⟩
      intro L v2 W2 hL hI
      have hfin := hI.fin (hL 4 (by decide))
      have noi0 := R_o.noI
      clear R_o
      obtain ⟨R_o, hK5⟩ := hfin
      simp only [putP, Act.put, List.setIfInBounds_toArray, List.set_cons_zero, List.set_cons_succ]
      clear hI hL hok L
      have noi1 : ∀ b ∈ [o], NoI wr b := by
        intro b hb
        rw [List.mem_singleton.1 hb]
        exact noi0
      replace R_q := R_q.keep hK5 noi1 (by simp [ne_q_o, Ne.symm ne_q_o])
      replace R_r := R_r.keep hK5 noi1 (by simp [ne_r_o, Ne.symm ne_r_o])
      replace hd := hd.keep hK5 noi1
      replace hr := hK5.rd hr hado
      replace hx := Ext.keep_ hx hK5 (by simpa using bs_o)
      clear noi1
      replace lt_q := Nat.lt_of_lt_of_le lt_q hK5.size
      replace lt_r := Nat.lt_of_lt_of_le lt_r hK5.size
      replace lt_o := Nat.lt_of_lt_of_le lt_o hK5.size
      replace hK := hK.same hK5
      clear noi0 hK5
      obtain ⟨q8, hq8⟩ : ∃ q, q = m / 8 := ⟨_, rfl⟩
      obtain ⟨t8, ht8⟩ : ∃ t, t = m % 8 := ⟨_, rfl⟩
      have hqm : q8 < 32 := by omega
      have hqmI : (q8 : Int) < 32 := by omega
      have hq0 : 0 ≤ (q8 : Int) := by omega
      have ht0 : 0 ≤ (t8 : Int) := by omega
      have ht8' : t8 < 8 := by omega
      have ht8I : (t8 : Int) < 8 := by omega
      have d1 : (m : Int) / 8 = (q8 : Int) := by omega
      have d2 : (m : Int).tdiv 8 = (q8 : Int) := by rw [Int.tdiv_eq_ediv_of_nonneg (by omega)]; omega
      have r1 : (m : Int) % 8 = (t8 : Int) := by omega
      have r2 : (m : Int).tmod 8 = (t8 : Int) := by rw [Int.tmod_eq_emod_of_nonneg (by omega)]; omega
      have hbt : N / 2 ^ m % 2 = (f q8).toNat / 2 ^ t8 % 2 := by
        have := bit_V N (f q8).toNat m (by rw [← hq8]; exact hNb.out q8 hqm)
        rwa [← ht8] at this
      obtain ⟨ad2, e2, hcell⟩ := hr.at_ (k := q8) (by simpa [blist] using hqm)
      injection e2 with e2
      subst e2
      have hcell2 : World.cell? W2 (ad.add q8) = some (.int .u8 (n8 (f q8))) := by
        rw [hcell]
        simp [blist]
      generalize f q8 = y at hcell2 hbt
      have hsh := shr_b y t8 ht8'
      have hb2 : (y >>> UInt8.ofNat t8 &&& 1).toNat = N / 2 ^ m % 2 := by rw [bit_b y t8 ht8', hbt]
      clear hcell hbt hq8 ht8
      by_cases hbit : N / 2 ^ m % 2 = 1
      · have hbb : (y >>> UInt8.ofNat t8 &&& 1 == 1) = true := by
          rw [beq_iff_eq]; apply UInt8.toNat_inj.1; rw [hb2, hbit]; rfl
        have hfin2 : N / 2 ^ m = 2 * M + 1 := by rw [hM2.out, hbit]
        replace hfin2 := Lib.hid hfin2
        clear hb2 hbit hM2
        go_upto_region 7 with fail
        clear hbb hsh d1 d2 r1 r2 hcell2
        have hok : TrsOk [] W2.heap.size ([] : List Trk) := ⟨by simp, by simp, by simp, by simp⟩
        refine wp_region_text (InvF 4 (fun _ w' => RN w' o (((Pt.mul M P).add (Pt.mul M P)).add P) ∧ Keep [o] W2 w') (InvN [] (fun _ _ => True) (fun j => match j with | 2 => some (d) | _ => none) (fun j => match j with | 0 => some ((Pt.mul M P).add (Pt.mul M P)) | 1 => some (P) | 3 => some (((Pt.mul M P).add (Pt.mul M P)).add (P)) | _ => none) [] W2)) plan_51_7 [(32, 0), (33, 1), (34, 2), (35, 3)] 37 rfl (by kernel_rfl) (InvF.start (InvN.of (Inv.start0 hok (by simp)))) ⟨?_, ?_, ?_, ?_, ?_, trivial⟩ ?_
        · intro L v w hL hD hC hI
          obtain ⟨hI, hF⟩ := hI.step hL hC (by decide) (by decide)
          refine ⟨fun _ => Gives.mono ?_ hF, fun hw => by cases hw⟩
          refine hI.ptv _ hL (by simp) rfl rfl (fun _ => trivial) ?_
          rw [show readsOf plan_51_7 0 = [] from rfl]
          exact ld_N (R_o.keep hI.inv.keep (by simp) (by simp)) _ rfl rfl fun u hu => ⟨hu, Ext.refl _⟩
        · intro L v w hL hD hC hI
          obtain ⟨hI, hF⟩ := hI.step hL hC (by decide) (by decide)
          refine ⟨fun _ => Gives.mono ?_ hF, fun hw => by cases hw⟩
          refine hI.ptv _ hL (by simp) rfl rfl (fun _ => trivial) ?_
          rw [show readsOf plan_51_7 1 = [] from rfl]
          exact ld_N (R_q.keep hI.inv.keep (by simp) (by simp)) _ rfl rfl fun u hu => ⟨hu, Ext.refl _⟩
        · intro L v w hL hD hC hI
          obtain ⟨hI, hF⟩ := hI.step hL hC (by decide) (by decide)
          refine ⟨fun _ => Gives.mono ?_ hF, fun hw => by cases hw⟩
          refine hI.numv _ hL (by simp) rfl rfl (fun _ => trivial) ?_
          rw [show readsOf plan_51_7 2 = [] from rfl]
          exact ⟨hd.keep hI.inv.keep (by simp), Ext.refl _⟩
        · intro L v w hL hD hC hI
          obtain ⟨hI, hF⟩ := hI.step hL hC (by decide) (by decide)
          refine ⟨fun _ => Gives.mono ?_ hF, fun hw => by cases hw⟩
          have h0 : NP w (v 0) ((Pt.mul M P).add (Pt.mul M P)) := hI.num.p 0 _ (hD 0 (by decide)) rfl
          have h1 : NP w (v 1) (P) := hI.num.p 1 _ (hD 1 (by decide)) rfl
          have h2 : NF w (v 2) (d) := hI.num.n 2 _ (hD 2 (by decide)) rfl
          refine hI.ptv _ hL (by simp) rfl rfl (fun _ => trivial) ?_
          rw [show readsOf plan_51_7 3 = [(32, 0), (33, 1), (34, 2)] from rfl]
          refine give_call _ _ _ _ rfl rfl Try.func47 (by kernel_rfl) (by kernel_rfl) ?_
          refine Calls.mono (hadd h0 h1 h2) ?_
          rintro e w' ⟨r, rfl, hr, hx⟩
          exact ⟨r, rfl, hr, hx⟩
        · intro L v w hL hD hC hI
          obtain ⟨hI, hF⟩ := hI.last hL
          refine ⟨fun _ => Gives.mono ?_ hF, fun hw => by cases hw⟩
          have h3 : NP w (v 3) (((Pt.mul M P).add (Pt.mul M P)).add (P)) := hI.num.p 3 _ (hD 3 (by decide)) rfl
          rw [show readsOf plan_51_7 4 = [(35, 3)] from rfl]
          obtain ⟨cs, hr, hN⟩ := R_o.keep hI.inv.keep (by simp) (by simp)
          exact st_N (T := 0) hr hN.cells.1 hN.cells.2 _ _ rfl rfl h3 fun w' hr hk => ⟨hr, (hI.inv.keep.mono (by simp)).same hk⟩
        intro L v3 W3 hL hI
        have hfin := hI.fin (hL 4 (by decide))
        have noi0 := R_o.noI
        clear R_o
        obtain ⟨R_o, hK7⟩ := hfin
        simp only [putP, Act.put, List.setIfInBounds_toArray, List.set_cons_zero, List.set_cons_succ]
        clear hI hL hok L
        have hKK := hK.same hK7
        clear hK hK7
        rw [two_pt, ← hfin2.out] at R_o
        go_wp2
        exact ⟨⟨m, _, Nat.le_of_lt hm, rfl, hx4, R_o, ⟨hKK.os, hKK.tape, hKK.output, hKK.size, hKK.keep⟩⟩, by simp [intOf]; try omega⟩
      · have hbb : (y >>> UInt8.ofNat t8 &&& 1 == 1) = false := by
          rw [beq_eq_false_iff_ne]; intro e; rw [e] at hb2; exact hbit hb2.symm
        have hfin2 : N / 2 ^ m = 2 * M := by rw [hM2.out]; omega
        replace hfin2 := Lib.hid hfin2
        clear hb2 hbit hM2
        rw [two_mul_pt, ← hfin2.out] at R_o
        go_wp2
        exact ⟨⟨m, _, Nat.le_of_lt hm, rfl, hx4, R_o, ⟨hK.os, hK.tape, hK.output, hK.size, hK.keep⟩⟩, by simp [intOf]; try omega⟩
    · obtain rfl : x = -1 := by omega
      obtain rfl : i = 0 := by omega
      rw [Nat.pow_zero, Nat.div_one] at R_o
      clear hxi hxi' hK
      go_upto_region 8 with fail
      have hok : TrsOk [] wr.heap.size ([] : List Trk) := ⟨by simp, by simp, by simp, by simp⟩
      refine wp_region_text (InvF 1 (fun _ w' => RN w' r (Pt.mul N P) ∧ Keep [r] wr w') (InvN [] (fun _ _ => True) (fun _ => none) (fun j => match j with | 0 => some (Pt.mul N P) | _ => none) [] wr)) plan_51_8 [(36, 0)] 37 rfl (by kernel_rfl) (InvF.start (InvN.of (Inv.start0 hok (by simp)))) ⟨?_, ?_, trivial⟩ ?_
      · intro L v w hL hD hC hI
        obtain ⟨hI, hF⟩ := hI.step hL hC (by decide) (by decide)
        refine ⟨fun _ => Gives.mono ?_ hF, fun hw => by cases hw⟩
        refine hI.ptv _ hL (by simp) rfl rfl (fun _ => trivial) ?_
        rw [show readsOf plan_51_8 0 = [] from rfl]
        exact ld_N (R_o.keep hI.inv.keep (by simp) (by simp)) _ rfl rfl fun u hu => ⟨hu, Ext.refl _⟩
      · intro L v w hL hD hC hI
        obtain ⟨hI, hF⟩ := hI.last hL
        refine ⟨fun _ => Gives.mono ?_ hF, fun hw => by cases hw⟩
        have h0 : NP w (v 0) (Pt.mul N P) := hI.num.p 0 _ (hD 0 (by decide)) rfl
        rw [show readsOf plan_51_8 1 = [(36, 0)] from rfl]
        obtain ⟨z1, z2, z3, hR, hz1, hz2, hz3⟩ := R_r.keep hI.inv.keep (by simp) (by simp)
        exact st_N (T := 0) hR rfl (by simp [hz1.slice, hz2.slice, hz3.slice]) _ _ rfl rfl h0 fun w' hr hk => ⟨hr, (hI.inv.keep.mono (by simp)).same hk⟩
      intro L v2 W2 hL hI
      have hfin := hI.fin (hL 1 (by decide))
      obtain ⟨hRN, hK⟩ := hfin
      simp only [putP, Act.put, List.setIfInBounds_toArray, List.set_cons_zero, List.set_cons_succ]
      go_wp2
      obtain ⟨cs, hR1, hN1⟩ := hRN
      obtain ⟨fs, hu⟩ := u60
      exact bodyPost_ret (results_cell_row (p := 6) (ty := 60) rfl _ _ r _ _ (0, 0) _ rfl hR1 hu rfl (by rw [List.size_toArray, hN1.cells.1]; exact i60)) rfl ⟨_, rfl, hN1, Ext.keep_ hx hK (by simpa using bs_r)⟩
end Go.Proofs.Ytndohjgfjbopnaa
