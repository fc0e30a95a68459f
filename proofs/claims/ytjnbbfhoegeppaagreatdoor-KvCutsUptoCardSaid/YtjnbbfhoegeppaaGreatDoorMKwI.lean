/-
  Walks of the answer's store: its opening with a snapshot.
-/
import Derived.Test.YtjnbbfhoegeppaaGreatDoorMKwG
set_option linter.unusedSimpArgs false
set_option linter.unusedVariables false
namespace Go.Proofs.YtjnbbfhoegeppaaGreatDoor
open Go.RowKit Go.Cv Go.Cv.Dk Go.Cv.Wal Go.Cv.Kv
set_option maxRecDepth 4000 in
set_option maxHeartbeats 12800000 in
theorem ropen_yes (bs : List Nat) (A1 : Option Addr) (n1 c1 : Nat) (sb : List UInt8) (A2 : Option Addr) (n2 c2 : Nat) (lb : List UInt8) (w : World) (hl1 : sb.length = n1) (hc1 : n1 ≤ c1) (hm1 : c1 ≤ maxLen) (hr1 : Rd w A1 (sb.map bv)) (hA1 : sb ≠ [] → ∀ x ∈ rowOf A1, x ∉ bs ∧ x < w.heap.size) (hb1 : n1 ≤ 134217728)
    (hl2 : lb.length = n2) (hc2 : n2 ≤ c2) (hm2 : c2 ≤ maxLen) (hr2 : Rd w A2 (lb.map bv)) (hA2 : lb ≠ [] → ∀ x ∈ rowOf A2, x ∉ bs ∧ x < w.heap.size) (hbs : ∀ x ∈ bs, x < w.heap.size) (hb2 : n2 ≤ 134217728) :
    Calls Tryz.prog 25 #[.slice A1 n1 c1, .bool true, .slice A2 n2 c2] w (ROpens w bs (openR sb true lb)) := by
  refine calls_hid fun G hG => ?_
  have hx0 := ext_alloc w (.cells #[.slice none 0 0, .int .i64 0] 31)
  have hSc1 := rscan_any A1 n1 c1 sb (w.alloc (.cells #[.slice none 0 0, .int .i64 0] 31)) hl1 hc1 hm1 (hr1.ext hx0) (by omega)
  have hw0 : w.heap.size < (w.alloc (.cells #[.slice none 0 0, .int .i64 0] 31)).heap.size := by simp
  by_cases hone : ∃ r1, Scans sb [r1] n1
  · obtain ⟨r1, hone⟩ := hone
    replace hA1 := hA1 (scans_ne hone (k := 0) (by simp))
    have hsf : snpF sb = snpD r1 := snpF_one hone hl1.symm
    have hSc1' : Calls Tryz.prog 59 #[.slice A1 n1 c1] (w.alloc (.cells #[.slice none 0 0, .int .i64 0] 31)) fun e w' => ∃ ad A' n' c' cT, e = .returned (.tuple #[.slice (some ad) 1 cT, .int .i64 (n1 : Nat)]) ∧ Ext (w.alloc (.cells #[.slice none 0 0, .int .i64 0] 31)) w' ∧ w'.cell? ad = some (.slice A' n' c') ∧ r1.length = n' ∧ n' ≤ c' ∧ c' ≤ maxLen ∧ Rd w' A' (r1.map bv) ∧ ∀ x ∈ rowOf A', x ∈ rowOf A1 := hSc1.mono fun e w' h => by
      obtain ⟨A3, c3, vs, R, u, hsc, he, hx3, ho3, hc3, hm3, hr3, ha3⟩ := h
      obtain ⟨e1, e2⟩ := hsc.unique hone
      subst e1 e2
      obtain ⟨ad, A', n', c', hA, p0, h1, h2, h3, h4, h5⟩ := rrecs_get ho3 ha3 hw0 (fun _ x hx e => by have := (hA1 x hx).2; omega) w' (Keep.refl _ _) 0 (by simp)
      refine ⟨ad, A', n', c', c3, by rw [he, hA]; rfl, hx3, p0, h1, h2, h3, h4, h5⟩
    rcases hsn : snpD r1 with _ | K0
    · have hOR : openR sb true lb = none := by
        unfold openR
        rw [if_pos rfl, hsf, hsn]
        rfl
      have hgo : Hid (∀ wr, Ext w wr → G (.returned (.tuple #[.pointer none, .int .i64 13])) wr) := Lib.hid fun wr hx => hG.out _ _ ⟨hx, by rw [hOR]⟩
      have hKp : ∀ A' n' c' w3, Ext w w3 → r1.length = n' → n' ≤ c' → c' ≤ maxLen → Rd w3 A' (r1.map bv) → (∀ x ∈ rowOf A', x ∈ rowOf A1) → Calls Tryz.prog 60 #[.slice A' n' c'] w3 fun e w' => (∃ v, e = .returned (.tuple #[v, .bool false])) ∧ Ext w3 w' := fun A' n' c' w3 hx h1 h2 h3 h4 h5 =>
        (rkept_any (rowOf A') A' n' c' r1 w3 h1 h4 h2 h3 (by
          rcases A' with _ | a
          · exact fun _ => .inr rfl
          · exact fun e => by cases e) (.inr fun x hx => hx) (fun x hx' => by have h6 := (hA1 x (h5 x hx')).2; have h7 := hx.size; omega)).mono fun e w' h => by
          obtain ⟨h1, h2⟩ := h
          rcases h2 with ⟨K, h3, _⟩ | ⟨_, h3⟩
          · rw [hsn] at h3; cases h3
          · exact ⟨h3, h1⟩
      clear hG hSc1 hOR
      go_enter Tryz.func25, Tryz.ntmps25
      go_wp2_with (first
        | (go_at_call 59; (with_reducible refine hSc1'.mono ?_); rintro e w3 ⟨ad, A', n', c', cT, rfl, hx3, p0, h1, h2, h3, h4, h5⟩; have hK := hKp A' n' c' w3 (hx0.trans hx3) h1 h2 h3 h4 h5)
        | (go_at_call 60; (with_reducible refine hK.mono ?_); rintro e w4 ⟨⟨v, rfl⟩, hx4⟩))
      exact hgo.out _ ((hx0.trans hx3).trans hx4)
    · have hK0b := snp_n hsn
      have hK0l' := snp_l hsn
      have hKp : ∀ A' n' c' w3, Ext w w3 → r1.length = n' → n' ≤ c' → c' ≤ maxLen → Rd w3 A' (r1.map bv) → (∀ x ∈ rowOf A', x ∈ rowOf A1) → Calls Tryz.prog 60 #[.slice A' n' c'] w3 fun e w' => (∃ rs, e = .returned (.tuple #[.pointer (some ⟨rs, 0, none⟩), .bool true]) ∧ Rto w' rs K0 bs ∧ w.heap.size ≤ rs ∧ rs < w'.heap.size) ∧ Ext w3 w' := fun A' n' c' w3 hx h1 h2 h3 h4 h5 =>
        (rkept_any (rowOf A') A' n' c' r1 w3 h1 h4 h2 h3 (by
          rcases A' with _ | a
          · exact fun _ => .inr rfl
          · exact fun e => by cases e) (.inr fun x hx => hx) (fun x hx' => by have h6 := (hA1 x (h5 x hx')).2; have h7 := hx.size; omega)).mono fun e w' h => by
          obtain ⟨h1, h2⟩ := h
          rcases h2 with ⟨K, h3, rs, T, c, L, he, hat, hge, hT, hv⟩ | ⟨h3, _⟩
          · rw [hsn] at h3
            injection h3 with h3
            subst h3
            have hsz := hx.size
            exact ⟨⟨rs, he, ⟨T, c, L, hat, ⟨fun hm => by have := hbs _ hm; omega, .inr fun y hy hm => by have h8 := hT y hy; have h9 := hbs y hm; omega, fun x hx => (hv x hx).imp id fun h y hy => (hA1 y (h5 y (h y hy))).1⟩⟩, by omega, hat.row.lt⟩, h1⟩
          · rw [hsn] at h3; cases h3
      have hSc2 := fun w4 (hx : Ext w w4) => rscan_any A2 n2 c2 lb w4 hl2 hc2 hm2 (hr2.ext hx) (by omega)
      clear hSc1
      go_enter Tryz.func25, Tryz.ntmps25
      go_wp2_with (first
        | (go_at_call 59; (with_reducible refine hSc1'.mono ?_); rintro e wa ⟨ad, A', n', c', cT, rfl, hxa, p0, h1, h2, h3, h4, h5⟩; have hK := hKp A' n' c' wa (hx0.trans hxa) h1 h2 h3 h4 h5)
        | (go_at_call 60; (with_reducible refine hK.mono ?_); rintro e w4 ⟨⟨rs, rfl, hK4, hrge, hrlt⟩, hx4⟩; have hSc := hSc2 w4 ((hx0.trans hxa).trans hx4))
        | (go_at_call 59; (with_reducible refine hSc.mono ?_); rintro e w3 ⟨A3, c3, vs, R, u, hsc, rfl, hx3, ho3, hc3, hm3, hr3, ha3⟩))
      have hE3 := Lib.hid (((hx0.trans hxa).trans hx4).trans hx3)
      have hK3 := hK4.ext hx3
      have hRb : R.length ≤ 16777216 := by have := hsc.count; omega
      have hOR : openR sb true lb = opnR none K0 R := by
        unfold openR
        rw [(sc_eq hsc).1, if_pos rfl, hsf, hsn]
        rfl
      have hK0l : K0.l.length ≤ 4294967296 ∧ K0.n ≤ 4611686018427387904 := ⟨by omega, hK0b⟩
      clear hSc hSc2 hK hKp hSc1' p0 h1 h2 h3 h4 h5 hK4 hsn hsf hone
      have hR0 : Rdo w w3 rs K0 bs (K0.l.length) ∨ True := .inr trivial
      have hA3 : Hid (∀ k, k < R.length → ∀ x ∈ rowOf A2, x ∉ bs ∧ x < w.heap.size) := Lib.hid fun k hk => hA2 (scans_ne hsc hk)
      clear hA2
      have hget := Lib.hid (rrecs_get ho3 ha3 hrlt (fun h0 x hx e => by have := (hA3.out 0 h0 x hx).2; omega))
      have hRl : R.length ≤ 16777216 := hRb
      have hgs : Hid (∀ wr K', opnR none K0 R = some K' → Rto wr rs K' bs → Ext w wr → G (.returned (.tuple #[.pointer (some ⟨rs, 0, none⟩), .int .i64 0])) wr) := Lib.hid fun wr K' ho hk hx => hG.out _ _ ⟨hx, by rw [hOR, ho]; exact ⟨rs, rfl, hk, hrge⟩⟩
      have hgb : Hid (∀ wr, opnR none K0 R = none → Ext w wr → G (.returned (.tuple #[.pointer none, .int .i64 13])) wr) := Lib.hid fun wr ho hx => hG.out _ _ ⟨hx, by rw [hOR, ho]⟩
      clear hG hr3 ho3 ha3 hOR hR0
      go_loopw [15, 16] (fun la i wr => ∃ (k : Nat) (last : Option Nat) (K : KS), k ≤ R.length ∧ i = .int .i64 k ∧ la = .int .i64 (lr last : Nat) ∧ Hid (Rto wr rs K bs) ∧ Hid (Keep [rs] w3 wr) ∧ Hid (OProg K0 R k last K) ∧ Hid (K.l.length ≤ K0.l.length + 4096 * k) ∧ (k = 0 ↔ last = none)) (fun _ i _ => R.length - (intOf i).toNat)
      case atStart => exact ⟨0, none, K0, Nat.zero_le _, rfl, rfl, Lib.hid hK3, Lib.hid (Keep.refl _ _), Lib.hid (OProg.start _ _), Lib.hid (by omega), by simp⟩
      case round =>
        obtain ⟨k, last, K, hk, rfl, rfl, hst, hkp, hOP, hKl, hkl⟩ := hrel
        have hEw : Ext w wr := ext_keep hE3.out hkp.out (fun x hx => by rw [List.mem_singleton.1 hx]; exact hrge)
        by_cases hlt : k < R.length
        · have hA2 := hA3.out k hlt
          obtain ⟨ad, A', n', c', hAd, p0, hl', hnc, hcm, hrd, hin⟩ := hget.out wr hkp.out k hlt
          subst hAd
          obtain ⟨src, hs1, hs2⟩ : ∃ src : List Nat, (∀ x ∈ src, x ∈ rowOf A2) ∧ (A' = none → c' = 0 ∨ src = []) ∧ ∀ x ∈ rowOf A', x ∈ src := by
            rcases A' with _ | a'
            · exact ⟨[], by simp, fun _ => .inr rfl, by simp [rowOf]⟩
            · exact ⟨rowOf (some a'), hin, fun e => (by cases e), fun x hx => hx⟩
          have hW0 := rbatch_any src A' n' c' R[k] wr hl' hrd hnc hcm hs2.1 (.inr hs2.2) (fun x hx => by have h1 := (hA2 x (hs1 x hx)).2; have h2 := hEw.size; omega)
          have hnb := hOP.out.n
          replace hEw := Lib.hid hEw
          by_cases hbt : ∃ z, batD R[k] = some z ∧ z.1 < 9223372036854775808
          · obtain ⟨z, hbt, hzl⟩ := hbt
            have hWr : Calls Tryz.prog 61 #[.slice A' n' c'] wr fun e w' => Ext wr w' ∧ ∃ T cT LW, z.2 = LW.map WV.pw ∧ e = .returned (.tuple #[.int .i64 (z.1 : Nat), .slice T LW.length cT, .bool true]) ∧ WsAt w' T LW ∧ ∀ x ∈ LW, x.v = [] ∨ ∀ y ∈ rowOf x.A, y ∈ src := hW0.mono fun e w' x => ⟨x.1, by
              rcases x.2 with ⟨z', h1, _, T, cT, LW, h2, h3, h4, _, h5⟩ | ⟨h1, _⟩
              · rw [hbt] at h1
                injection h1 with h1
                subst h1
                exact ⟨T, cT, LW, h2, h3, h4, h5⟩
              · have := h1 z hbt; omega⟩
            have hbl := bat_l hbt
            obtain ⟨ci, hci⟩ : ∃ ci : Int, ci = ((z.1 : Nat) : Int) := ⟨_, rfl⟩
            rw [← hci] at hWr
            have hcz := Lib.hid hci
            have hstep := fun hb => hOP.out.step hlt hbt hb
            have hno := fun hb : brk last K.n z.1 => (show opnR none K0 R = none by rw [hOP.out.next hlt, opn1_brk hbt hb]; rfl)
            obtain ⟨T', cT', LS, hSat, hSap⟩ := hst.out
            have r1 : wr.cell? ⟨rs, 1, none⟩ = some (.int .i64 K.n) := hSat.row.cell (i := 1) (by simp)
            have hcells : ∀ w', Ext wr w' → w'.cell? ⟨rs, 1, none⟩ = some (.int .i64 K.n) := fun w' hx => hx.cell r1
            clear hW0 hSat hSap r1
            have hbrk : ∀ b, decide (brk last K.n z.1) = b → decide (brk last K.n z.1) = b := fun _ h => h
            by_cases hbr : brk last K.n z.1
            · have hgo := Lib.hid fun w' hx => hgb.out w' (hno hbr) (hEw.out.trans hx)
              clear hstep hno
              rcases last with _ | l
              · have hk0 : k = 0 := hkl.2 rfl
                have g1 : ¬ 0 < k := (by omega)
                have g2 : ((k : Int) == 0) = true := by rw [hk0]; rfl
                have e0 : wrap64 (ci - 1) = ci - 1 := IntWalk.wrap64_in _ (by omega)
                have hbr2 := (brk_none hzl).1 hbr
                replace hk0 := Lib.hid hk0
                replace hbr := Lib.hid hbr
                replace hkl := Lib.hid hkl
                by_cases h3 : z.1 < 1
                · have g3 : decide (ci < 1) = true := decide_eq_true (by omega)
                  replace hbr2 := Lib.hid hbr2
                  clear hci; go_wp2_with (go_at_call 61; (with_reducible refine hWr.mono ?_); rintro e w7 ⟨hx7, T, cT, LW, hLW, rfl, hWs, hva⟩; have q7 := hcells w7 hx7)
                  exact hgo.out _ hx7
                · have g3 : decide (ci < 1) = false := decide_eq_false (by omega)
                  have g4 : decide (ci - 1 > (K.n : Int)) = true := decide_eq_true (by omega)
                  replace hbr2 := Lib.hid hbr2
                  clear hci; go_wp2_with (go_at_call 61; (with_reducible refine hWr.mono ?_); rintro e w7 ⟨hx7, T, cT, LW, hLW, rfl, hWs, hva⟩; have q7 := hcells w7 hx7)
                  exact hgo.out _ hx7
              · have hk0 : ¬ k = 0 := fun h => by have := hkl.1 h; cases this
                have g1 : 0 < k := (by omega)
                have e0 : wrap64 (ci - 1) = ci - 1 := IntWalk.wrap64_in _ (by omega)
                have hbr2 := (brk_some hzl).1 hbr
                have g4 : (ci - 1 != ((lr (some l) : Nat) : Int)) = true := by
                  have : lr (some l) = l := rfl
                  rw [this]
                  simp
                  omega
                replace hk0 := Lib.hid hk0
                replace hbr := Lib.hid hbr
                replace hkl := Lib.hid hkl
                replace hbr2 := Lib.hid hbr2
                clear hci; go_wp2_with (go_at_call 61; (with_reducible refine hWr.mono ?_); rintro e w7 ⟨hx7, T, cT, LW, hLW, rfl, hWs, hva⟩; have q7 := hcells w7 hx7)
                exact hgo.out _ hx7
            · have hst2 := Lib.hid (hstep hbr)
              clear hno
              have gd : Hid (¬ brk last K.n z.1) := Lib.hid hbr
              have gA : Hid ((k = 0 ∧ last = none) ∨ (¬ k = 0 ∧ ∃ l, last = some l)) := Lib.hid (by
                rcases last with _ | l
                · exact .inl ⟨hkl.2 rfl, rfl⟩
                · exact .inr ⟨fun h => (by have := hkl.1 h; cases this), l, rfl⟩)
              have e0 : wrap64 (ci - 1) = ci - 1 := IntWalk.wrap64_in _ (by omega)
              replace hkl := Lib.hid hkl
              clear hbr hbrk
              rcases gA.out with ⟨hk0, hln⟩ | ⟨hk0, l, hln⟩
              · have hbr2 := gd.out
                rw [hln, brk_none hzl] at hbr2
                have g1 : ¬ 0 < k := (by omega)
                have g2 : ((k : Int) == 0) = true := by rw [hk0]; rfl
                have g3 : decide (ci < 1) = false := decide_eq_false (by omega)
                have g4 : decide (ci - 1 > (K.n : Int)) = false := decide_eq_false (by omega)
                replace hk0 := Lib.hid hk0
                replace hln := Lib.hid hln
                replace hbr2 := Lib.hid hbr2
                by_cases h5 : K.n < z.1
                · have g5 : decide (ci > (K.n : Int)) = true := decide_eq_true (by omega)
                  have hsp := hst2.out
                  rw [if_pos h5] at hsp
                  replace hsp := Lib.hid hsp
                  replace h5 := Lib.hid h5
                  clear hci; go_wp2_with (first
                    | (go_at_call 61; (with_reducible refine hWr.mono ?_); rintro e w7 ⟨hx7, T, cT, LW, hLW, rfl, hWs, hva⟩; have q7 := hcells w7 hx7; have hDo := rdo_any rs K bs T cT LW w7 (hst.out.ext hx7) (fun x hx => (by have h1 := hbs x hx; have h2 := hEw.out.size; have h3 := hx7.size; omega)) hWs (fun x hx => (hva x hx).imp id fun h y hy => (hA2 y (hs1 y (h y hy))).1) (by have h1 := hbl.1; rw [hLW, List.length_map] at h1; omega) (by have := hKl.out; omega) (by omega))
                    | (go_at_call 14; (with_reducible refine hDo.mono ?_); rintro e w8 ⟨rfl, hR8, hK8⟩))
                  go_roundw
                  case rel => exact ⟨k + 1, some z.1, _, hlt, by go_num, by rw [hcz.out]; rfl, Lib.hid hR8, Lib.hid ((hkp.out.ext hx7).same hK8), Lib.hid (by rw [hLW] at hsp; exact hsp.out), Lib.hid (by have h1 := doB_len K (LW.map WV.pw); have h2 := hKl.out; have h3 := hbl.1; rw [hLW] at h3; omega), by simp⟩
                  case measure => simp [intOf]; omega
                · have g5 : decide (ci > (K.n : Int)) = false := decide_eq_false (by omega)
                  have hsp := hst2.out
                  rw [if_neg h5] at hsp
                  replace hsp := Lib.hid hsp
                  replace h5 := Lib.hid h5
                  clear hci; go_wp2_with (go_at_call 61; (with_reducible refine hWr.mono ?_); rintro e w7 ⟨hx7, T, cT, LW, hLW, rfl, hWs, hva⟩; have q7 := hcells w7 hx7)
                  go_roundw
                  case rel => exact ⟨k + 1, some z.1, K, hlt, by go_num, by rw [hcz.out]; rfl, Lib.hid (hst.out.ext hx7), Lib.hid (hkp.out.ext hx7), hsp, Lib.hid (by have := hKl.out; omega), by simp⟩
                  case measure => simp [intOf]; omega
              · have hbr2 := gd.out
                rw [hln, brk_some hzl] at hbr2
                have g1 : 0 < k := (by omega)
                have g2 : ((k : Int) == 0) = false := beq_false_of_ne (by omega)
                have g4 : (ci - 1 != ((lr last : Nat) : Int)) = false := by
                  have : lr last = l := by rw [hln]; rfl
                  rw [this]
                  simp
                  omega
                replace hk0 := Lib.hid hk0
                replace hln := Lib.hid hln
                replace hbr2 := Lib.hid hbr2
                by_cases h5 : K.n < z.1
                · have g5 : decide (ci > (K.n : Int)) = true := decide_eq_true (by omega)
                  have hsp := hst2.out
                  rw [if_pos h5] at hsp
                  replace hsp := Lib.hid hsp
                  replace h5 := Lib.hid h5
                  clear hci; go_wp2_with (first
                    | (go_at_call 61; (with_reducible refine hWr.mono ?_); rintro e w7 ⟨hx7, T, cT, LW, hLW, rfl, hWs, hva⟩; have q7 := hcells w7 hx7; have hDo := rdo_any rs K bs T cT LW w7 (hst.out.ext hx7) (fun x hx => (by have h1 := hbs x hx; have h2 := hEw.out.size; have h3 := hx7.size; omega)) hWs (fun x hx => (hva x hx).imp id fun h y hy => (hA2 y (hs1 y (h y hy))).1) (by have h1 := hbl.1; rw [hLW, List.length_map] at h1; omega) (by have := hKl.out; omega) (by omega))
                    | (go_at_call 14; (with_reducible refine hDo.mono ?_); rintro e w8 ⟨rfl, hR8, hK8⟩))
                  go_roundw
                  case rel => exact ⟨k + 1, some z.1, _, hlt, by go_num, by rw [hcz.out]; rfl, Lib.hid hR8, Lib.hid ((hkp.out.ext hx7).same hK8), Lib.hid (by rw [hLW] at hsp; exact hsp.out), Lib.hid (by have h1 := doB_len K (LW.map WV.pw); have h2 := hKl.out; have h3 := hbl.1; rw [hLW] at h3; omega), by simp⟩
                  case measure => simp [intOf]; omega
                · have g5 : decide (ci > (K.n : Int)) = false := decide_eq_false (by omega)
                  have hsp := hst2.out
                  rw [if_neg h5] at hsp
                  replace hsp := Lib.hid hsp
                  replace h5 := Lib.hid h5
                  clear hci; go_wp2_with (go_at_call 61; (with_reducible refine hWr.mono ?_); rintro e w7 ⟨hx7, T, cT, LW, hLW, rfl, hWs, hva⟩; have q7 := hcells w7 hx7)
                  go_roundw
                  case rel => exact ⟨k + 1, some z.1, K, hlt, by go_num, by rw [hcz.out]; rfl, Lib.hid (hst.out.ext hx7), Lib.hid (hkp.out.ext hx7), hsp, Lib.hid (by have := hKl.out; omega), by simp⟩
                  case measure => simp [intOf]; omega
          · have hWr : Calls Tryz.prog 61 #[.slice A' n' c'] wr fun e w' => Ext wr w' ∧ ∃ v1 v2, e = .returned (.tuple #[v1, v2, .bool false]) := hW0.mono fun e w' x => ⟨x.1, by
              rcases x.2 with ⟨z', h1, h1b, _⟩ | ⟨_, h2⟩
              · exact absurd ⟨z', h1, h1b⟩ hbt
              · exact h2⟩
            have hno : opnR none K0 R = none := by
              rw [hOP.out.next hlt]
              rcases hq : batD R[k] with _ | z
              · rw [opn1_none hq]; rfl
              · rw [opn1_brk hq (.inr (.inl (by
                  rcases Nat.lt_or_ge z.1 9223372036854775808 with h | h
                  · exact absurd ⟨z, hq, h⟩ hbt
                  · exact h)))]
                rfl
            have hgo := Lib.hid fun w' hx => hgb.out w' hno (hEw.out.trans hx)
            clear hW0
            go_wp2_with (go_at_call 61; (with_reducible refine hWr.mono ?_); rintro e w7 ⟨hx7, v1, v2, rfl⟩)
            exact hgo.out _ hx7
        · obtain rfl : k = R.length := by omega
          have hd := hOP.out.done
          have hgg := Lib.hid (hgs.out wr K hd hst.out hEw)
          go_wp2
          exact hgg.out
  · have hOR : openR sb true lb = none := by
      unfold openR
      rw [if_pos rfl]
      rw [snpF_not (sc_spec sb) (fun h => hone (by
        obtain ⟨h1, h2⟩ := h
        obtain ⟨r1, h3⟩ := List.length_eq_one_iff.1 h1
        exact ⟨r1, by rw [← h3, ← hl1, ← h2]; exact sc_spec sb⟩))]
      rfl
    have hSc1' : Calls Tryz.prog 59 #[.slice A1 n1 c1] (w.alloc (.cells #[.slice none 0 0, .int .i64 0] 31)) fun e w' => ∃ A3 c3 m u, e = .returned (.tuple #[.slice A3 m c3, .int .i64 (u : Nat)]) ∧ Ext (w.alloc (.cells #[.slice none 0 0, .int .i64 0] 31)) w' ∧ ¬ (m = 1 ∧ u = n1) := hSc1.mono fun e w' h => by
      obtain ⟨A3, c3, vs, R, u, hsc, he, hx3, ho3, hc3, hm3, hr3, ha3⟩ := h
      refine ⟨A3, c3, R.length, u, he, hx3, fun hh => hone ?_⟩
      obtain ⟨h1, h2⟩ := hh
      obtain ⟨r1, h3⟩ := List.length_eq_one_iff.1 h1
      exact ⟨r1, by rw [← h3, ← h2]; exact hsc⟩
    have hgb : Hid (∀ wr, Ext w wr → G (.returned (.tuple #[.pointer none, .iface 0 (.int .i64 13)])) wr → True) := Lib.hid fun _ _ _ => trivial
    have hgo : Hid (∀ wr, Ext w wr → G (.returned (.tuple #[.pointer none, .int .i64 13])) wr) := Lib.hid fun wr hx => hG.out _ _ ⟨hx, by rw [hOR]⟩
    clear hG hSc1 hOR hgb
    go_enter Tryz.func25, Tryz.ntmps25
    go_wp2_with (go_at_call 59; (with_reducible refine hSc1'.mono ?_); rintro e w3 ⟨A3, c3, m, u, rfl, hx3, hmu⟩; have hE3 := hx0.trans hx3; have gm : Hid (¬ (m = 1 ∧ u = n1)) := Lib.hid hmu; clear hmu)
    all_goals first | exact hgo.out _ hE3 | (exfalso; simp only [bne_eq_false_iff_eq] at *; have := gm.out; omega)
end Go.Proofs.YtjnbbfhoegeppaaGreatDoor
