/-
  The document's answer of layer 7: a point over a denominator made; a number times a point.
-/
import Derived.Test.YtndohjgfjbopnaaAns
set_option linter.unusedSimpArgs false
set_option linter.unusedVariables false
namespace Go.Cv
open Go.RowKit
/-- All that is known until operation s is done; then R. -/
def InvF (s : Nat) (R : (Nat → Value) → World → Prop) (I : (Nat → Bool) → (Nat → Value) → World → Prop) (L : Nat → Bool) (v : Nat → Value) (w : World) : Prop := if L s = true then R v w else I L v w
section
variable {s i : Nat} {R : (Nat → Value) → World → Prop} {I : (Nat → Bool) → (Nat → Value) → World → Prop} {L : Nat → Bool} {v : Nat → Value} {w : World}
theorem InvF.start (h : I (fun _ => false) v w) : InvF s R I (fun _ => false) v w := by
  unfold InvF
  rw [if_neg (by simp)]
  exact h
theorem InvF.step {pl : List Plan} (hI : InvF s R I L v w) (hL : L i = false) (hC : ∀ j, L j = true → ∀ d ∈ depsOf pl j, L d = true) (hd : (depsOf pl s).contains i = true) (hne : i ≠ s) :
    I L v w ∧ ∀ u w', I (setB L i) (setV v i u) w' → InvF s R I (setB L i) (setV v i u) w' := by
  have hs : ¬ L s = true := fun h => by
    have := hC s h i (by simpa using hd)
    rw [hL] at this; cases this
  unfold InvF at hI
  rw [if_neg hs] at hI
  refine ⟨hI, fun u w' h => ?_⟩
  unfold InvF
  rw [setB_ne (Ne.symm hne), if_neg hs]
  exact h
theorem InvF.last (hI : InvF s R I L v w) (hL : L s = false) : I L v w ∧ ∀ u w', R (setV v s u) w' → InvF s R I (setB L s) (setV v s u) w' := by
  unfold InvF at hI
  rw [if_neg (by rw [hL]; simp)] at hI
  refine ⟨hI, fun u w' h => ?_⟩
  unfold InvF
  rw [setB_self, if_pos rfl]
  exact h
theorem InvF.fin (hI : InvF s R I L v w) (hL : L s = true) : R v w := by
  unfold InvF at hI
  rwa [if_pos hL] at hI
end
theorem shr_b (x : UInt8) (s : Nat) (h : s < 8) : n8 x / 2 ^ s = n8 (x >>> UInt8.ofNat s) := by
  show (x.toNat : Int) / 2 ^ s = (((x >>> UInt8.ofNat s).toNat : Nat) : Int)
  rw [UInt8.toNat_shiftRight, UInt8.toNat_ofNat', Nat.mod_eq_of_lt (show s < 2 ^ 8 by omega), Nat.mod_eq_of_lt h, Nat.shiftRight_eq_div_pow]
  simp
theorem bit_b (x : UInt8) (s : Nat) (h : s < 8) : (x >>> UInt8.ofNat s &&& 1).toNat = x.toNat / 2 ^ s % 2 := by
  rw [UInt8.toNat_and, UInt8.toNat_shiftRight, UInt8.toNat_ofNat', Nat.mod_eq_of_lt (show s < 2 ^ 8 by omega), Nat.mod_eq_of_lt h, Nat.shiftRight_eq_div_pow]
  show _ &&& 1 = _
  rw [Nat.and_one_is_mod]
theorem bit_V (N b i : Nat) (h : N / 2 ^ (8 * (i / 8)) % 256 = b) : N / 2 ^ i % 2 = b / 2 ^ (i % 8) % 2 := by
  obtain ⟨q, hq⟩ : ∃ q, q = i / 8 := ⟨_, rfl⟩
  obtain ⟨t, ht⟩ : ∃ t, t = i % 8 := ⟨_, rfl⟩
  have hi : i = 8 * q + t := by omega
  have ht8 : t < 8 := by omega
  rw [← hq] at h
  rw [← ht, hi, Nat.pow_add, ← Nat.div_div_eq_div_mul, ← h]
  generalize N / 2 ^ (8 * q) = M
  have e : (256 : Nat) = 2 ^ t * (2 * 2 ^ (7 - t)) := (by decide : ∀ t < 8, (256 : Nat) = 2 ^ t * (2 * 2 ^ (7 - t))) t ht8
  rw [e, Nat.mod_mul_right_div_self, Nat.mod_mul_right_mod]
end Go.Cv
namespace Go.Proofs.Ytndohjgfjbopnaa
set_option maxRecDepth 20000
open Go.RowKit Go.Cv Go.Cv.Pr Go.Cv.Grp Go.Cv.Dig
section
variable {w : World} {o : Oper} {ev : Operand → Value} {R : Value → World → Prop} {n : Nat} {P : P7}
theorem ld_N (hR : RN w n P) (p : Operand) (ho : o.op = .load 60 p) (hx : ev p = .pointer (some ⟨n, 0, none⟩)) (h : ∀ u, NP w u P → R u w) : Gives Try.prog R ((execOp ev o).run Try.prog w) := by
  obtain ⟨cs, h1, h2⟩ := hR
  obtain ⟨fs, hu⟩ := u60
  exact give_load_row _ p ho n hx h1 _ hu rfl (by rw [h2.cells.1]; exact i60) (h _ h2)
theorem st_N {T : TypeId} {cs : List Value} (hR : Row w n 60 cs) (hl : cs.length = 3) (hno : ∀ c ∈ cs, noI c = true) (p q : Operand) (ho : o.op = .store 60 p q) (hx : ev p = .pointer (some ⟨n, 0, none⟩)) (hy : NP w (ev q) P)
    (h : ∀ w', RN w' n P → Keep [n] w w' → R undef w') : Gives Try.prog R ((execOp ev o).run Try.prog w) := by
  have hN : ∀ b ∈ [n], NoI w b := fun b hb => by rw [List.mem_singleton.1 hb]; exact NoI.of hR hno
  have hy2 := hy
  obtain ⟨a, b, c, X, Y, Z, e, h1, h2, h3, h4⟩ := hy
  obtain ⟨A1, n1, c1, q1⟩ := h1.sl
  obtain ⟨A2, n2, c2, q2⟩ := h2.sl
  obtain ⟨A3, n3, c3, q3⟩ := h3.sl
  refine give_store_row _ p q ho n #[a, b, c] hx e hR i60 hl (by rw [q1, q2, q3]; simp [Value.oneCell']) fun w' hr hk => h w' ⟨_, hr, ?_⟩ hk
  rw [e] at hy2
  exact hy2.keep hk hN
theorem built60 (A1 A2 A3 : Option Addr) (n1 n2 n3 c1 c2 c3 : Nat) : Try.prog.built 60 [(0, .slice A1 n1 c1), (1, .slice A2 n2 c2), (2, .slice A3 n3 c3)] = some #[.slice A1 n1 c1, .slice A2 n2 c2, .slice A3 n3 c3] := by kernel_rfl
theorem bd_N (p q r : Operand) {X Y Z : F7} (ho : o.op = .build 60 #[(0, p), (1, q), (2, r)]) (hp : NF w (ev p) X) (hq : NF w (ev q) Y) (hr : NF w (ev r) Z) (h3 : R3 X Y Z P) (h : ∀ u, NP w u P → R u w) : Gives Try.prog R ((execOp ev o).run Try.prog w) := by
  obtain ⟨A1, n1, c1, q1⟩ := hp.sl
  obtain ⟨A2, n2, c2, q2⟩ := hq.sl
  obtain ⟨A3, n3, c3, q3⟩ := hr.sl
  refine give_build _ _ ho #[.slice A1 n1 c1, .slice A2 n2 c2, .slice A3 n3 c3] ?_ (h _ ?_)
  · simp only [List.map_toArray, List.map_cons, List.map_nil, q1, q2, q3]
    exact built60 _ _ _ _ _ _ _ _ _
  · rw [q1] at hp
    rw [q2] at hq
    rw [q3] at hr
    exact ⟨_, _, _, X, Y, Z, rfl, hp, hq, hr, h3⟩
end
theorem RN.of3 {w : World} {n : Nat} {X Y Z : F7} {P : P7} (h : R3w w n X Y Z) (k : R3 X Y Z P) : RN w n P := by
  obtain ⟨a, b, c, h1, h2, h3, h4⟩ := h
  exact ⟨_, h1, ⟨a, b, c, X, Y, Z, rfl, h2, h3, h4, k⟩⟩
theorem two_pt (k : Nat) (P : P7) : ((Pt.mul k P).add (Pt.mul k P)).add P = Pt.mul (2 * k + 1) P := by
  rw [two_mul_pt, Pt.mul_succ]
theorem results_N1 {fn : Func} {p : Tmp} (h : fn.results = #[.cell p 60]) (tmps : Array Value) {W : World} {n : Nat} {P : P7} (hR : RN W n P)
    (hp : tmps.getD p undef = .pointer (some ⟨n, 0, none⟩)) : ∃ v, NP W v P ∧ (results fn tmps).run Try.prog W = .ok v W := by
  obtain ⟨cs, h1, h2⟩ := hR
  obtain ⟨fs, hu⟩ := u60
  exact ⟨_, h2, results_cell_row (P := Try.prog) h tmps W n _ _ (0, 0) _ hp h1 hu rfl (by rw [List.size_toArray, h2.cells.1]; exact i60)⟩
def plan_48_1 : List Plan := [⟨[], []⟩, ⟨[0], [(3, 0)]⟩, ⟨[0, 1], [(4, 1)]⟩, ⟨[], []⟩, ⟨[3], [(6, 3)]⟩, ⟨[0, 1, 2, 3, 4], [(7, 4)]⟩, ⟨[], []⟩, ⟨[0, 1, 2, 3, 4, 5, 6], [(5, 2), (8, 5), (9, 6)]⟩, ⟨[0, 1, 2, 3, 4, 5, 6, 7], [(10, 7)]⟩]
def plan_87_1 : List Plan := [⟨[], []⟩, ⟨[], []⟩, ⟨[0, 1], [(1, 0), (2, 1)]⟩, ⟨[0, 1, 2], [(3, 2)]⟩]
set_option maxRecDepth 20000 in
set_option maxHeartbeats 8000000 in
theorem rin7 {f g : Nat → UInt8} {P : P7} (hPx : tf (V f) = P.x) (hPy : tf (V g) = P.y) (w : World) :
    Calls Try.prog 48 #[.agg (pc f g)] w fun e w' => ∃ v, e = .returned v ∧ NP w' v P ∧ Ext w w' := by
  go_enter Try.func48, Try.ntmps48
  go_upto_region 1 with fail
  obtain ⟨E0, hE0⟩ : ∃ W, W = w.alloc (.cells (pc f g) 43) := ⟨_, rfl⟩
  obtain ⟨E1, hE1⟩ : ∃ W, W = E0.alloc (.cells #[.slice none 0 0, .slice none 0 0, .slice none 0 0] 60) := ⟨_, rfl⟩
  rw [← hE0, ← hE1]
  have s0 : E0.heap.size = w.heap.size + 1 := by rw [hE0]; exact Array.size_push _
  have x0 : Ext w E0 := by rw [hE0]; exact ext_alloc _ _
  have s1 : E1.heap.size = w.heap.size + 1 + 1 := by rw [hE1, ← s0]; exact Array.size_push _
  have x1 : Ext E0 E1 := by rw [hE1]; exact ext_alloc _ _
  have R_q := RV.newP w f g 43
  rw [← hE0] at R_q
  replace R_q := R_q.ext x1
  have R_r := R3w.new E0 (.slice none 0 0) (.slice none 0 0) (.slice none 0 0) (NF.nil _) (NF.nil _) (NF.nil _)
  rw [← hE1] at R_r
  rw [s0] at R_r
  obtain ⟨q, hb0⟩ : ∃ b, b = w.heap.size := ⟨_, rfl⟩
  obtain ⟨r, hb1⟩ : ∃ b, b = w.heap.size + 1 := ⟨_, rfl⟩
  rw [← hb1] at R_r
  rw [← hb0] at R_q
  rw [← hb1, ← hb0]
  have hx : Ext w E1 := ((Ext.refl w).trans x0).trans x1
  have lt_q : q < E1.heap.size := R_q.lt
  have bs_q : w.heap.size ≤ q := by omega
  have lt_r : r < E1.heap.size := R_r.lt
  have bs_r : w.heap.size ≤ r := by omega
  have ne_q_r : q ≠ r := by omega
  clear hb0 s0 x0 hE0 hb1 s1 x1 hE1
  have h3 : R3 (tf (V f)) (tf (V g)) 1 P := by rw [hPx, hPy]; exact R3.of P
  have hok : TrsOk [] E1.heap.size ([] : List Trk) := ⟨by simp, by simp, by simp, by simp⟩
  refine wp_region_plan (InvF 8 (fun _ w' => RN w' r P ∧ Keep [r] E1 w') (InvN [] (fun j u => match j with | 0 => u = .pointer (some ⟨q, 0, none⟩) | 1 => u = .agg (bcells (f)) | 3 => u = .pointer (some ⟨q, 32, none⟩) | 4 => u = .agg (bcells (g)) | _ => True) (fun j => match j with | 2 => some (tf (V (f))) | 5 => some (tf (V (g))) | 6 => some (1) | _ => none) (fun j => match j with | 7 => some (P) | _ => none) [] E1)) plan_48_1 [(3, 0), (4, 1), (5, 2), (6, 3), (7, 4), (8, 5), (9, 6), (10, 7)] 11 (by kernel_rfl) rfl (by kernel_rfl) (InvF.start (InvN.of (Inv.start hok (by simp)))) ⟨?_, ?_, ?_, ?_, ?_, ?_, ?_, ?_, ?_, trivial⟩ ?_
  · intro L v w hL hD hC hI
    obtain ⟨hI, hF⟩ := hI.step hL hC (by decide) (by decide)
    refine ⟨fun _ => Gives.mono ?_ hF, fun hw => by cases hw⟩
    refine hI.val0 hL (by simp) rfl rfl ?_
    rw [show readsOf plan_48_1 0 = [] from rfl]
    go_simp
    exact ⟨rfl, Ext.refl _⟩
  · intro L v w hL hD hC hI
    obtain ⟨hI, hF⟩ := hI.step hL hC (by decide) (by decide)
    refine ⟨fun _ => Gives.mono ?_ hF, fun hw => by cases hw⟩
    have h0 : (v 0) = .pointer (some ⟨q, 0, none⟩) := hI.inv.val 0 (hD 0 (by decide))
    refine hI.val0 hL (by simp) rfl rfl ?_
    rw [show readsOf plan_48_1 1 = [(3, 0)] from rfl]
    exact ld_Px (R_q.keep hI.inv.keep (by simp)) _ rfl h0 fun u hu => ⟨hu, Ext.refl _⟩
  · intro L v w hL hD hC hI
    obtain ⟨hI, hF⟩ := hI.step hL hC (by decide) (by decide)
    refine ⟨fun _ => Gives.mono ?_ hF, fun hw => by cases hw⟩
    have h1 : (v 1) = .agg (bcells (f)) := hI.inv.val 1 (hD 1 (by decide))
    refine hI.numv _ hL (by simp) rfl rfl (fun _ => trivial) ?_
    rw [show readsOf plan_48_1 2 = [(4, 1)] from rfl]
    refine give_call _ _ _ _ rfl rfl Try.func15 (by kernel_rfl) (by kernel_rfl) ?_
    refine Calls.mono (calls_eq (nin (f) w) (args' := #[v 1]) (by rw [h1])) ?_
    rintro e w' ⟨r, rfl, hr, hx⟩
    exact ⟨r, rfl, hr, hx⟩
  · intro L v w hL hD hC hI
    obtain ⟨hI, hF⟩ := hI.step hL hC (by decide) (by decide)
    refine ⟨fun _ => Gives.mono ?_ hF, fun hw => by cases hw⟩
    refine hI.val0 hL (by simp) rfl rfl ?_
    rw [show readsOf plan_48_1 3 = [] from rfl]
    go_simp
    exact ⟨rfl, Ext.refl _⟩
  · intro L v w hL hD hC hI
    obtain ⟨hI, hF⟩ := hI.step hL hC (by decide) (by decide)
    refine ⟨fun _ => Gives.mono ?_ hF, fun hw => by cases hw⟩
    have h3 : (v 3) = .pointer (some ⟨q, 32, none⟩) := hI.inv.val 3 (hD 3 (by decide))
    refine hI.val0 hL (by simp) rfl rfl ?_
    rw [show readsOf plan_48_1 4 = [(6, 3)] from rfl]
    exact ld_Py (R_q.keep hI.inv.keep (by simp)) _ rfl h3 fun u hu => ⟨hu, Ext.refl _⟩
  · intro L v w hL hD hC hI
    obtain ⟨hI, hF⟩ := hI.step hL hC (by decide) (by decide)
    refine ⟨fun _ => Gives.mono ?_ hF, fun hw => by cases hw⟩
    have h4 : (v 4) = .agg (bcells (g)) := hI.inv.val 4 (hD 4 (by decide))
    refine hI.numv _ hL (by simp) rfl rfl (fun _ => trivial) ?_
    rw [show readsOf plan_48_1 5 = [(7, 4)] from rfl]
    refine give_call _ _ _ _ rfl rfl Try.func15 (by kernel_rfl) (by kernel_rfl) ?_
    refine Calls.mono (calls_eq (nin (g) w) (args' := #[v 4]) (by rw [h4])) ?_
    rintro e w' ⟨r, rfl, hr, hx⟩
    exact ⟨r, rfl, hr, hx⟩
  · intro L v w hL hD hC hI
    obtain ⟨hI, hF⟩ := hI.step hL hC (by decide) (by decide)
    refine ⟨fun _ => Gives.mono ?_ hF, fun hw => by cases hw⟩
    refine hI.numv _ hL (by simp) rfl rfl (fun _ => trivial) ?_
    rw [show readsOf plan_48_1 6 = [] from rfl]
    go_simp
    exact ⟨NF.one _ _, ext_alloc _ _⟩
  · intro L v w hL hD hC hI
    obtain ⟨hI, hF⟩ := hI.step hL hC (by decide) (by decide)
    refine ⟨fun _ => Gives.mono ?_ hF, fun hw => by cases hw⟩
    have h2 : NF w (v 2) (tf (V (f))) := hI.num.n 2 _ (hD 2 (by decide)) rfl
    have h5 : NF w (v 5) (tf (V (g))) := hI.num.n 5 _ (hD 5 (by decide)) rfl
    have h6 : NF w (v 6) (1) := hI.num.n 6 _ (hD 6 (by decide)) rfl
    refine hI.ptv _ hL (by simp) rfl rfl (fun _ => trivial) ?_
    rw [show readsOf plan_48_1 7 = [(5, 2), (8, 5), (9, 6)] from rfl]
    exact bd_N _ _ _ rfl h2 h5 h6 h3 fun u hu => ⟨hu, Ext.refl _⟩
  · intro L v w hL hD hC hI
    obtain ⟨hI, hF⟩ := hI.last hL
    refine ⟨fun _ => Gives.mono ?_ hF, fun hw => by cases hw⟩
    have h7 : NP w (v 7) (P) := hI.num.p 7 _ (hD 7 (by decide)) rfl
    rw [show readsOf plan_48_1 8 = [(10, 7)] from rfl]
    obtain ⟨z1, z2, z3, hR, hz1, hz2, hz3⟩ := R_r.keep hI.inv.keep (by simp) (by simp)
    exact st_N (T := 0) hR rfl (by simp [hz1.slice, hz2.slice, hz3.slice]) _ _ rfl rfl h7 fun w' hr hk => ⟨hr, (hI.inv.keep.mono (by simp)).same hk⟩
  intro L v1 W1 hL hI
  have hfin := hI.fin (hL 8 (by decide))
  obtain ⟨hRN, hK⟩ := hfin
  simp only [putP, Act.put, List.setIfInBounds_toArray, List.set_cons_zero, List.set_cons_succ]
  go_wp2
  obtain ⟨cs, hR1, hN1⟩ := hRN
  obtain ⟨fs, hu⟩ := u60
  exact bodyPost_ret (results_cell_row (p := 2) (ty := 60) rfl _ _ r _ _ (0, 0) _ rfl hR1 hu rfl (by rw [List.size_toArray, hN1.cells.1]; exact i60)) rfl ⟨_, rfl, hN1, Ext.keep_ hx hK (by simpa using bs_r)⟩
set_option maxRecDepth 20000 in
set_option maxHeartbeats 8000000 in
theorem rnought (w : World) :
    Calls Try.prog 87 #[] w fun e w' => ∃ v, e = .returned v ∧ NP w' v (Pt.zero C7) ∧ Ext w w' := by
  go_enter Try.func87, Try.ntmps87
  go_upto_region 1 with fail
  obtain ⟨E0, hE0⟩ : ∃ W, W = w.alloc (.cells #[.slice none 0 0, .slice none 0 0, .slice none 0 0] 60) := ⟨_, rfl⟩
  rw [← hE0]
  have s0 : E0.heap.size = w.heap.size + 1 := by rw [hE0]; exact Array.size_push _
  have x0 : Ext w E0 := by rw [hE0]; exact ext_alloc _ _
  have R_r := R3w.new w (.slice none 0 0) (.slice none 0 0) (.slice none 0 0) (NF.nil _) (NF.nil _) (NF.nil _)
  rw [← hE0] at R_r
  obtain ⟨r, hb0⟩ : ∃ b, b = w.heap.size := ⟨_, rfl⟩
  rw [← hb0] at R_r
  rw [← hb0]
  have hx : Ext w E0 := (Ext.refl w).trans x0
  have lt_r : r < E0.heap.size := R_r.lt
  have bs_r : w.heap.size ≤ r := by omega
  clear hb0 s0 x0 hE0
  have hok : TrsOk [] E0.heap.size ([] : List Trk) := ⟨by simp, by simp, by simp, by simp⟩
  refine wp_region_text (InvF 3 (fun _ w' => RN w' r (Pt.zero C7) ∧ Keep [r] E0 w') (InvN [] (fun _ _ => True) (fun j => match j with | 0 => some (1) | 1 => some (1) | _ => none) (fun j => match j with | 2 => some (Pt.zero C7) | _ => none) [] E0)) plan_87_1 [(1, 0), (2, 1), (3, 2)] 4 rfl (by kernel_rfl) (InvF.start (InvN.of (Inv.start0 hok (by simp)))) ⟨?_, ?_, ?_, ?_, trivial⟩ ?_
  · intro L v w hL hD hC hI
    obtain ⟨hI, hF⟩ := hI.step hL hC (by decide) (by decide)
    refine ⟨fun _ => Gives.mono ?_ hF, fun hw => by cases hw⟩
    refine hI.numv _ hL (by simp) rfl rfl (fun _ => trivial) ?_
    rw [show readsOf plan_87_1 0 = [] from rfl]
    go_simp
    exact ⟨NF.one _ _, ext_alloc _ _⟩
  · intro L v w hL hD hC hI
    obtain ⟨hI, hF⟩ := hI.step hL hC (by decide) (by decide)
    refine ⟨fun _ => Gives.mono ?_ hF, fun hw => by cases hw⟩
    refine hI.numv _ hL (by simp) rfl rfl (fun _ => trivial) ?_
    rw [show readsOf plan_87_1 1 = [] from rfl]
    go_simp
    exact ⟨NF.one _ _, ext_alloc _ _⟩
  · intro L v w hL hD hC hI
    obtain ⟨hI, hF⟩ := hI.step hL hC (by decide) (by decide)
    refine ⟨fun _ => Gives.mono ?_ hF, fun hw => by cases hw⟩
    have h0 : NF w (v 0) (1) := hI.num.n 0 _ (hD 0 (by decide)) rfl
    have h1 : NF w (v 1) (1) := hI.num.n 1 _ (hD 1 (by decide)) rfl
    refine hI.ptv _ hL (by simp) rfl rfl (fun _ => trivial) ?_
    rw [show readsOf plan_87_1 2 = [(1, 0), (2, 1)] from rfl]
    exact bd_N _ _ _ rfl (NF.nil _) h0 h1 R3.zero fun u hu => ⟨hu, Ext.refl _⟩
  · intro L v w hL hD hC hI
    obtain ⟨hI, hF⟩ := hI.last hL
    refine ⟨fun _ => Gives.mono ?_ hF, fun hw => by cases hw⟩
    have h2 : NP w (v 2) (Pt.zero C7) := hI.num.p 2 _ (hD 2 (by decide)) rfl
    rw [show readsOf plan_87_1 3 = [(3, 2)] from rfl]
    obtain ⟨z1, z2, z3, hR, hz1, hz2, hz3⟩ := R_r.keep hI.inv.keep (by simp) (by simp)
    exact st_N (T := 0) hR rfl (by simp [hz1.slice, hz2.slice, hz3.slice]) _ _ rfl rfl h2 fun w' hr hk => ⟨hr, (hI.inv.keep.mono (by simp)).same hk⟩
  intro L v1 W1 hL hI
  have hfin := hI.fin (hL 3 (by decide))
  obtain ⟨hRN, hK⟩ := hfin
  simp only [putP, Act.put, List.setIfInBounds_toArray, List.set_cons_zero, List.set_cons_succ]
  go_wp2
  obtain ⟨cs, hR1, hN1⟩ := hRN
  obtain ⟨fs, hu⟩ := u60
  exact bodyPost_ret (results_cell_row (p := 0) (ty := 60) rfl _ _ r _ _ (0, 0) _ rfl hR1 hu rfl (by rw [List.size_toArray, hN1.cells.1]; exact i60)) rfl ⟨_, rfl, hN1, Ext.keep_ hx hK (by simpa using bs_r)⟩
end Go.Proofs.Ytndohjgfjbopnaa
