/-
  The package sign: the digest of texts one behind the other, modulo the order.
-/
import Derived.Test.YtgeihelkkhjjaaaDoorSgH
import Derived.Deep.Upon
set_option linter.unusedSimpArgs false
set_option linter.unusedVariables false
namespace Go.Proofs.YtgeihelkkhjjaaaDoor
open Go.RowKit Go.Cv Go.Cv.Pr Go.Cv.Grp Go.Cv.Hash
/-- Slices of bytes, told by their bytes. -/
def Parts (w : World) (vs : List Value) (ls : List (List UInt8)) : Prop := vs.length = ls.length ∧ ∀ i, i < ls.length → ∃ A n c, vs[i]? = some (.slice A n c) ∧ (ls.getD i []).length = n ∧ n ≤ c ∧ Rd w A ((ls.getD i []).map bv)
theorem Parts.ext {w w' : World} {vs : List Value} {ls : List (List UInt8)} (h : Parts w vs ls) (hx : Ext w w') : Parts w' vs ls :=
  ⟨h.1, fun i hi => by obtain ⟨A, n, c, h1, h2, h3, h4⟩ := h.2 i hi; exact ⟨A, n, c, h1, h2, h3, h4.ext hx⟩⟩
theorem Parts.one {w : World} {A : Option Addr} {n c : Nat} {l : List UInt8} (hl : l.length = n) (hc : n ≤ c) (hr : Rd w A (l.map bv)) : Parts w [.slice A n c] [l] :=
  ⟨rfl, fun i hi => by
    match i, hi with
    | 0, _ => exact ⟨A, n, c, rfl, hl, hc, hr⟩⟩
theorem Parts.two {w : World} {A A' : Option Addr} {n c n' c' : Nat} {l l' : List UInt8} (hl : l.length = n) (hc : n ≤ c) (hr : Rd w A (l.map bv)) (hl' : l'.length = n') (hc' : n' ≤ c') (hr' : Rd w A' (l'.map bv)) : Parts w [.slice A n c, .slice A' n' c'] [l, l'] :=
  ⟨rfl, fun i hi => by
    match i, hi with
    | 0, _ => exact ⟨A, n, c, rfl, hl, hc, hr⟩
    | 1, _ => exact ⟨A', n', c', rfl, hl', hc', hr'⟩⟩
theorem wpList_appnone {P : Program} {w : World} {ops : Array Oper} {rest : List Oper} {o : Oper} {a : Act} {Q : Exit → Act → World → Prop} (hgd : o.guard = none) (s x : Operand) (t e : TypeId) (bytes : Nat)
    (ho : o.op = .call { callee := .builtin .append, args := #[s, x], argTypes := #[t, t] }) (hT : RowT P t e bytes) (A : Option Addr) (n c : Nat) (hs : a.eval s = .slice A n c) (hnc : n ≤ c) (B : Option Addr) (d : Nat) (hx : a.eval x = .slice B 0 d)
    (h : wpList P ops Q rest (a.put o.dst (.slice A n c)) w) : wpList P ops Q (o :: rest) a w :=
  wpList_plain hgd fun _ hK => by
    obtain ⟨ht, z, i, hi, hz, hsize, hby, hzs⟩ := hT
    have hsrc : Src P i.size t (.slice B 0 d) 0 [] w := ⟨.inl ⟨e, ht⟩, fun w' => rfl, by cases B <;> simp [Builtin.firstCells, loadCells, loadCellsFrom], by cases B <;> simp [Builtin.firstCells, loadCells, loadCellsFrom], by simp, by simp⟩
    have hrun := run_append_nothing (P := P) w t t o.type e i ht hi A n c hnc (.slice B 0 d) hsrc
    unfold Oper.wp execOp
    simp only [ho, resolve, invoke, builtin, Sem.run_bind, Sem.run_pure, Result.andThen_ok, List.map_toArray, List.map_cons, List.map_nil, hs, hx, hrun]
    exact hK _ _ h
theorem getD_flat (ls : List (List UInt8)) (i : Nat) (hi : i < ls.length) : (ls.take (i + 1)).flatten = (ls.take i).flatten ++ ls.getD i [] := by
  rw [List.take_succ_eq_append_getElem hi, List.flatten_append]
  simp [List.getD, hi]
theorem flat_take (ls : List (List UInt8)) : ∀ i, (ls.take i).flatten.length ≤ ls.flatten.length := fun i => by
  conv => rhs; rw [← List.take_append_drop i ls]
  rw [List.flatten_append, List.length_append]; omega
def plan_15_0 : List Plan := [⟨[], []⟩]
def plan_15_7 : List Plan := [⟨[], []⟩, ⟨[0], [(27, 0)]⟩, ⟨[], []⟩, ⟨[0, 1, 2], [(28, 1), (8, 2)]⟩]
def plan_15_8 : List Plan := [⟨[], []⟩, ⟨[0], [(30, 0)]⟩, ⟨[0, 1], [(31, 1)]⟩, ⟨[0, 1, 2], [(29, 2)]⟩, ⟨[0, 1, 2], [(29, 2)]⟩, ⟨[], []⟩, ⟨[0, 1, 2, 3, 5], [(32, 3), (9, 5)]⟩, ⟨[0, 1, 2, 3, 4, 5, 6], [(33, 4)]⟩]
def plan_15_9 : List Plan := [⟨[], []⟩, ⟨[0], [(34, 0)]⟩]
def plan_15_11 : List Plan := [⟨[], []⟩, ⟨[0], [(37, 0)]⟩]
set_option maxRecDepth 20000 in
set_option maxHeartbeats 16000000 in
theorem sdig_any (A : Option Addr) (n c : Nat) (l : List UInt8) (L : Option Addr) (k kc : Nat) (vs : List Value) (ls : List (List UInt8)) (w : World) (hl : l.length = n) (hnc : n ≤ c) (hr : Rd w A (l.map bv)) (hR : Rd w L vs) (hk : vs.length = k) (hp : Parts w vs ls) (kb : k ≤ 5000000) (bnd : n + ls.flatten.length ≤ 5000000) (hT : Tab64 w) :
    Calls Tryd.prog 15 #[.slice A n c, .slice L k kc] w fun e w' => e = .returned (.agg (bcells (sDig (l ++ ls.flatten)))) ∧ Ext w w' := by
  go_enter Tryd.func15, Tryd.ntmps15
  go_upto_region 0 with fail
  have hx : Ext w w := Ext.refl w
  have hok : TrsOk [] w.heap.size ([(tk (some 0) 0 22 (none) (sz 32) (fun _ => True))] : List Trk) := ⟨by simp [tk], by simp [tk], by simp [tk], by simp [tk]⟩
  have hE : ∀ p ∈ ([] : List (Nat × (Value → World → Prop))), Lasts [] p.2 := fun p hp => by cases hp
  refine wp_region_text (InvE [] [] [] (fun _ _ => True) [(tk (some 0) 0 22 (none) (sz 32) (fun _ => True))] w) plan_15_0 [(4, 0)] 38 rfl (by kernel_rfl) (InvE.start0 (Inv.start0 hok (by simp))) ⟨?_, trivial⟩ ?_
  · exact ee_new 0 hE rfl rfl rfl rfl rfl rfl hok fun L v w D I => al_B rfl fun c h => ⟨trivial, rfl, c, rfl, sz_mk c h⟩
  intro L v1 W1 hL hIE
  have hI := hIE.inv
  obtain ⟨r, hb_r, lo_r, R_r⟩ := hI.made0 0 rfl (hL 0 (by decide))
  have bs_r := Nat.le_trans hx.size lo_r
  have lt_r := R_r.lt
  have hxr := hI.keep.to_ext
  replace hx := hx.trans hxr
  clear hI hIE hL hE L hok hxr
  simp only [putP, Act.put, List.setIfInBounds_toArray, List.set_cons_zero, List.set_cons_succ, hb_r]
  replace hr := hr.ext hx
  replace hR := hR.ext hx
  replace hp := hp.ext hx
  have hkl : k = ls.length := hk.symm.trans hp.1
  have hkv : vs.length = ls.length := hp.1
  have hH := Lib.hid hkl
  have hN := Lib.hid hl
  have hV := Lib.hid hkv
  clear hkl hl hk hkv
  have hnI : (n : Int) ≤ (c : Int) := by omega
  go_wp2
  go_loopw [5, 19] (fun t5 t19 wr => ∃ (i m cB : Nat) (Bd : Option Addr) (acc : List UInt8), i ≤ k ∧ t19 = .int .i64 i ∧ t5 = .slice Bd m cB ∧ Hid (acc = l ++ (ls.take i).flatten) ∧ Hid (acc.length = m) ∧ m ≤ cB ∧ Rd wr Bd (acc.map bv) ∧ (Hid (cB = m) ∨ wr.ownsRow W1.heap.size 5 1 (.slice Bd m cB) m (acc.map bv)) ∧ Ext W1 wr) (fun _ t19 _ => k - (intOf t19).toNat)
  case atStart => exact ⟨0, n, n, A, l, by omega, rfl, rfl, Lib.hid (by simp), hN, Nat.le_refl _, hr, .inl (Lib.hid rfl), Ext.refl _⟩
  case round =>
    obtain ⟨i, m, cB, Bd, acc, hik, rfl, rfl, hacc, hal, hmc, hrd, hown, hE⟩ := hrel
    by_cases h1 : i < k
    · have h1' : (i : Int) < (k : Int) := by omega
      have hil : i < ls.length := by rw [← hH.out]; exact h1
      obtain ⟨A', n', c', hv, hpl, hpc, hpr⟩ := (hp.ext hE).2 i hil
      have hiv : i < vs.length := by rw [hV.out]; exact hil
      obtain ⟨ad, rfl, hcell⟩ := (hR.ext hE).at_ (k := i) hiv
      rw [List.getElem?_eq_getElem hiv] at hv
      injection hv with hv
      rw [hv] at hcell
      have hacc2 : Hid (acc ++ ls.getD i [] = l ++ (ls.take (i + 1)).flatten) := Lib.hid (by rw [getD_flat ls i hil, hacc.out, List.append_assoc])
      have hb2 : m + n' ≤ 5000000 := by
        have e1 := congrArg List.length hacc2.out
        have e2 := flat_take ls (i + 1)
        rw [List.length_append, List.length_append, hal.out, hpl, hN.out] at e1
        omega
      have hal2 : Hid ((acc ++ ls.getD i []).length = m + n') := Lib.hid (by rw [List.length_append, hal.out, hpl])
      generalize ls.getD i [] = p at *
      clear hv hacc
      have hBs := hE.size
      rcases hown with hcm | hown
      · by_cases h0 : n' = 0
        · subst h0
          have hp0 : p = [] := List.eq_nil_of_length_eq_zero hpl
          subst hp0
          rw [List.append_nil] at hacc2 hal2
          go_wp2_with (at_builtin; refine wpList_appnone rfl (.tmp 23) (.tmp 24) 23 5 1 rfl u8rowH64 Bd m cB rfl hmc A' c' rfl ?_)
          exact ⟨⟨i + 1, m, cB, Bd, acc, by omega, by go_num, rfl, hacc2, hal, hmc, hrd, .inl hcm, hE⟩, by simp [intOf]; omega⟩
        · have hroom : cB < m + n' := by have := hcm.out; omega
          have halx := hal.out
          have hpr1 : ∀ u ∈ p.map bv, u.oneCell' = true := one_map_bv _
          go_wp2_with (at_builtin; refine wpList_appnew rfl (.tmp 23) (.tmp 24) 23 5 1 rfl u8rowH64 Bd m cB (acc.map bv) rfl (by simpa using halx) hrd A' n' c' (p.map bv) rfl (by simpa using hpl) hpr hroom (by unfold maxLen; omega) (by omega) ?_; intro A2 c2 w2 ho2 hc2 hm2 hr2 hx2)
          rw [← List.map_append] at ho2 hr2
          exact ⟨⟨i + 1, m + n', c2, A2, acc ++ p, by omega, by go_num, rfl, hacc2, hal2, hc2, hr2, .inr (own_base ho2 hBs), hE.trans hx2⟩, by simp [intOf]; omega⟩
      · go_wp2_with (at_builtin; refine wpList_appb rfl (.tmp 23) (.tmp 24) 23 5 rfl u8rowH64 W1.heap.size _ m acc rfl hown A' n' c' p rfl hpl hpr (by omega) hBs ?_; intro A2 c2 w2 ho2 hc2 hm2 hr2 hx2)
        exact ⟨⟨i + 1, m + n', c2, A2, acc ++ p, by omega, by go_num, rfl, hacc2, hal2, hc2, hr2, .inr ho2, hx2 W1 hE (Nat.le_refl _)⟩, by simp [intOf]; omega⟩
    · have h1' : ¬ (i : Int) < (k : Int) := by omega
      have hfin : acc = l ++ ls.flatten := by
        have := hacc.out
        rwa [List.take_of_length_le (by rw [← hH.out]; omega)] at this
      have hb2 : m ≤ 5000000 := by
        have e1 := congrArg List.length hfin
        rw [List.length_append, hal.out, hN.out] at e1
        omega
      have hs : ∀ w', Ext w w' → Rd w' Bd (acc.map bv) → Calls Tryd.prog 23 #[.slice Bd m cB] w' fun e w2 => e = .returned (h64 (hash64 acc)) ∧ Ext w' w2 := fun w' hx hr => sum512_any Bd m cB acc w' hal.out hmc hr hb2 (hT.ext hx)
      have hDs : Hid (sDig (l ++ ls.flatten) = nb (bsum (fun j => (hash64 acc).getD j 0) 64 % ordN)) := Lib.hid (by rw [← hfin]; rfl)
      have hH64 := hash64_len acc
      have hsc : ∀ w' A, Rd w' A ((hash64 acc).map bv) → Calls Tryd.prog 24 #[.slice A 64 64] w' fun e w2 => e = .returned (.tuple #[.agg (bcells (nb (bsum (fun j => (hash64 acc).getD j 0) 64 % ordN))), .nilIface]) ∧ Ext w' w2 := fun w' A hr => scalar_ok A 64 64 _ w' hH64 hr (Nat.le_refl _)
      generalize nb (bsum (fun j => (hash64 acc).getD j 0) 64 % ordN) = D at *
      generalize hash64 acc = H at *
      replace hx := hx.trans hE
      replace R_r := R_r.ext hE
      have bs_r' := bs_r
      replace lt_r := R_r.lt
      clear hfin hacc hown hp hR hE
      go_upto_region 7 with fail
      have hok : TrsOk [] wr.heap.size ([(tk (some 2) 0 26 (some 3) (sz 64) (fun u => u = h64 (H)))] : List Trk) := ⟨by simp [tk], by simp [tk], by simp [tk], by simp [tk]⟩
      have hE : ∀ p ∈ ([] : List (Nat × (Value → World → Prop))), Lasts [26] p.2 := fun p hp => by cases hp
      refine wp_region_text (InvE [26] [] [] (fun j u => match j with | 0 => u = .slice Bd m cB | 1 => u = h64 H | _ => True) [(tk (some 2) 0 26 (some 3) (sz 64) (fun u => u = h64 (H)))] wr) plan_15_7 [(27, 0), (28, 1), (8, 2)] 38 rfl (by kernel_rfl) (InvE.start0 (Inv.start0 hok (by simp))) ⟨?_, ?_, ?_, ?_, trivial⟩ ?_
      · exact ee_val hE rfl rfl rfl fun L v w D N I => ⟨rfl, Ext.refl _⟩
      · exact ee_val hE rfl rfl rfl fun L v w D N I => gSum _ _ rfl rfl (calls_known (calls_eq_ (hs w (hx.trans I.inv.keep.to_ext) (hrd.ext I.inv.keep.to_ext)) (ar1 (I.inv.val 0 (D 0 rfl)))))
      · exact ee_new 0 hE rfl rfl rfl rfl rfl rfl hok fun L v w D I => al_H rfl fun c h => ⟨trivial, rfl, c, rfl, sz_mk c h⟩
      · exact ee_lay 0 2 hE rfl rfl rfl rfl rfl rfl rfl rfl hok fun L v w D I n cs hb hR ho => st_H hR (sz_len ho) hH64 _ _ rfl hb (I.inv.val 1 (D 1 rfl)) fun _ c a b k => ⟨trivial, k, c, a, b⟩
      intro L v2 W2 hL hIE
      have hI := hIE.inv
      obtain ⟨h, hb_h, lo_h, R_h⟩ := hI.made 0 rfl (hL 2 (by decide)) (hL 3 (by decide))
      replace R_r := R_r.keep0 hI.keep
      have ne_r_h := Nat.ne_of_lt (Nat.lt_of_lt_of_le lt_r lo_h)
      replace lt_r := Nat.lt_of_lt_of_le lt_r hI.keep.size
      have hxr := hI.keep.to_ext
      replace hx := hx.trans hxr
      clear hI hIE hL hE L hok hxr
      simp only [putP, Act.put, List.setIfInBounds_toArray, List.set_cons_zero, List.set_cons_succ, hb_h]
      go_upto_region 8 with fail
      have hok : TrsOk [] W2.heap.size ([(tk (some 5) 0 22 (some 6) (sz 32) (fun u => u = .agg (bcells (D))))] : List Trk) := ⟨by simp [tk], by simp [tk], by simp [tk], by simp [tk]⟩
      have hE : ∀ p ∈ ([] : List (Nat × (Value → World → Prop))), Lasts [22] p.2 := fun p hp => by cases hp
      refine wp_region_text (InvE [22] [] [] (fun j u => match j with | 0 => u = .slice (some ⟨h, 0, none⟩) 64 64 | 1 => u = .tuple #[.agg (bcells D), .nilIface] | 2 => u = .tuple #[.agg (bcells D), .nilIface] | 3 => u = .agg (bcells D) | 4 => u = .nilIface | 7 => u = .nilIface | _ => True) [(tk (some 5) 0 22 (some 6) (sz 32) (fun u => u = .agg (bcells (D))))] W2) plan_15_8 [(30, 0), (31, 1), (29, 2), (32, 3), (33, 4), (9, 5), (10, 7)] 38 rfl (by kernel_rfl) (InvE.start0 (Inv.start0 hok (by simp))) ⟨?_, ?_, ?_, ?_, ?_, ?_, ?_, ?_, trivial⟩ ?_
      · exact ee_val hE rfl rfl rfl fun L v w D N I => sl64 _ rfl rfl ⟨rfl, Ext.refl _⟩
      · exact ee_val hE rfl rfl rfl fun L v w D N I => gSca _ _ rfl rfl (calls_known (calls_eq_ (hsc w _ (rd_H (R_h.keep0 I.inv.keep))) (ar1 (I.inv.val 0 (D 0 rfl)))))
      · exact ee_val hE rfl rfl rfl fun L v w D N I => ⟨(I.inv.val 1 (D 1 rfl)), Ext.refl _⟩
      · exact ee_val hE rfl rfl rfl fun L v w D N I => give_ext _ _ _ rfl (I.inv.val 2 (D 2 rfl)) _ rfl ⟨rfl, Ext.refl _⟩
      · exact ee_val hE rfl rfl rfl fun L v w D N I => give_ext _ _ _ rfl (I.inv.val 2 (D 2 rfl)) _ rfl ⟨rfl, Ext.refl _⟩
      · exact ee_new 0 hE rfl rfl rfl rfl rfl rfl hok fun L v w D I => al_B rfl fun c h => ⟨trivial, rfl, c, rfl, sz_mk c h⟩
      · exact ee_lay 0 5 hE rfl rfl rfl rfl rfl rfl rfl rfl hok fun L v w D I n cs hb hR ho => st_B hR (sz_len ho) _ _ rfl hb (I.inv.val 3 (D 3 rfl)) fun _ c a b k => ⟨trivial, k, c, a, b⟩
      · exact ee_val hE rfl rfl rfl fun L v w D N I => ⟨(I.inv.val 4 (D 4 rfl)), Ext.refl _⟩
      intro L v3 W3 hL hIE
      have hI := hIE.inv
      obtain ⟨k9, hb_k9, lo_k9, R_k9⟩ := hI.made 0 rfl (hL 5 (by decide)) (hL 6 (by decide))
      replace R_r := R_r.keep0 hI.keep
      replace R_h := R_h.keep0 hI.keep
      have ne_r_k9 := Nat.ne_of_lt (Nat.lt_of_lt_of_le lt_r lo_k9)
      replace lt_r := Nat.lt_of_lt_of_le lt_r hI.keep.size
      have hxr := hI.keep.to_ext
      replace hx := hx.trans hxr
      have hs_10_8 : (v3 7) = .nilIface := hI.val 7 (hL 7 (by decide))
      clear hI hIE hL hE L hok hxr
      simp only [putP, Act.put, List.setIfInBounds_toArray, List.set_cons_zero, List.set_cons_succ, hb_k9, hs_10_8]
      go_upto_region 9 with fail
      have hE : ∀ p ∈ ([] : List (Nat × (Value → World → Prop))), Lasts [] p.2 := fun p hp => by cases hp
      refine wp_region_text (InvE [] [] [] (fun j u => match j with | 0 => u = .nilIface | 1 => u = .bool false | _ => True) [] W3) plan_15_9 [(34, 0), (35, 1)] 38 rfl (by kernel_rfl) (InvE.start0 (Inv.start0 ⟨by simp, by simp, by simp, by simp⟩ (by simp))) ⟨?_, ?_, trivial⟩ ?_
      · exact ee_val hE rfl rfl rfl fun L v w D N I => ⟨rfl, Ext.refl _⟩
      · exact ee_val hE rfl rfl rfl fun L v w D N I => give_nil_ne _ _ rfl (I.inv.val 0 (D 0 rfl)) rfl ⟨rfl, Ext.refl _⟩
      intro L v4 W4 hL hIE
      have hI := hIE.inv
      replace R_r := R_r.keep0 hI.keep
      replace R_h := R_h.keep0 hI.keep
      replace R_k9 := R_k9.keep0 hI.keep
      replace lt_r := Nat.lt_of_lt_of_le lt_r hI.keep.size
      have hxr := hI.keep.to_ext
      replace hx := hx.trans hxr
      have hs_35_9 : (v4 1) = .bool false := hI.val 1 (hL 1 (by decide))
      clear hI hIE hL hE L hxr
      simp only [putP, Act.put, List.setIfInBounds_toArray, List.set_cons_zero, List.set_cons_succ, hs_35_9]
      go_upto_region 11 with fail
      have hok : TrsOk [r] W4.heap.size ([(tk (none) r 22 (some 1) (sz 32) (fun u => u = .agg (bcells (D))))] : List Trk) := ⟨by simp [tk, R_r.lt], by simp [tk], by simp [tk], by simp [tk]⟩
      have hE : ∀ p ∈ ([] : List (Nat × (Value → World → Prop))), Lasts [22] p.2 := fun p hp => by cases hp
      refine wp_region_text (InvE [22] [] [r] (fun j u => match j with | 0 => u = .agg (bcells D) | _ => True) [(tk (none) r 22 (some 1) (sz 32) (fun u => u = .agg (bcells (D))))] W4) plan_15_11 [(37, 0)] 38 rfl (by kernel_rfl) (InvE.start0 (Inv.start0 hok (by
          simp only [List.forall_mem_cons, List.not_mem_nil, false_implies, implies_true, and_true]
          exact fun _ => R_r))) ⟨?_, ?_, trivial⟩ ?_
      · exact ee_val hE rfl rfl rfl fun L v w D N I => ld_B (R_k9.keep1 I.inv.keep (Ne.symm ne_r_k9)) _ rfl rfl ldK
      · exact ee_put 0 hE rfl rfl rfl rfl rfl rfl rfl hok fun L v w D I cs hR ho => st_B hR (sz_len ho) _ _ rfl rfl (I.inv.val 0 (D 0 rfl)) fun _ c a b k => ⟨trivial, k, c, a, b⟩
      intro L v5 W5 hL hIE
      have hI := hIE.inv
      replace R_h := R_h.keep1 hI.keep (Ne.symm ne_r_h)
      replace R_k9 := R_k9.keep1 hI.keep (Ne.symm ne_r_k9)
      replace R_r := hI.new 0 rfl (hL 1 (by decide))
      replace lt_r := Nat.lt_of_lt_of_le lt_r hI.keep.size
      replace hx := hx.keep1 hI.keep bs_r
      clear hI hIE hL hE L hok
      simp only [putP, Act.put, List.setIfInBounds_toArray, List.set_cons_zero, List.set_cons_succ]
      go_wp2
      refine bodyPost_ret (results_B1 rfl _ R_r rfl) rfl ⟨?_, hx⟩
      rw [hDs.out]
end Go.Proofs.YtgeihelkkhjjaaaDoor
