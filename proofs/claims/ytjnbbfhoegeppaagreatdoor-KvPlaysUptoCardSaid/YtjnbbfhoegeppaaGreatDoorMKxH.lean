/-
  KvPlays: the law's walk.
-/
import Derived.Test.YtjnbbfhoegeppaaGreatDoorMKxG
set_option linter.unusedSimpArgs false
set_option linter.unusedVariables false
namespace Go.Proofs.YtjnbbfhoegeppaaGreatDoor
open Go.RowKit Go.Cv Go.Cv.Dk Go.Cv.Wal Go.Cv.Kv
theorem fresh_bl {w w1 w2 : World} {d s : Nat} (hx : Ext w w1) (h : Fresh0 w1 1099511627776 d s w2) : ∃ S bs cs, BL w2 w1.heap.size d s S emptyK 0 bs cs ∧ S.room = 1099511627776 ∧ S.bud = -1 ∧ Ext w w2 := by
  obtain ⟨S, bs, cs, h1, h2, h3, h4⟩ := h
  exact ⟨S, bs, cs, h1, h2, h3, hx.trans h4⟩
theorem set_at {w : World} {A : Option Addr} {l : List UInt8} {j : Nat} (hz : Zb w A) (hr : Rd w A (l.map bv)) (hj : j < l.length) : ∃ ad y o cs, A = some ad ∧ ad.add j = ⟨y, o, none⟩ ∧ y ∈ rowOf A ∧ Row w y 5 cs ∧ w.cell? ⟨y, o, none⟩ = some (bv l[j]) ∧ w.frozen? ⟨y, o, none⟩ = false := by
  obtain ⟨ad, rfl, hc⟩ := hr j (bv l[j]) (by rw [List.getElem?_map, List.getElem?_eq_getElem hj]; rfl)
  have hsp := World.cell?_spot hc
  have hy : (ad.add j).block ∈ rowOf (some ad) := by rw [add_block]; simp [rowOf]
  obtain ⟨cs, hrow⟩ := hz _ hy
  have e : ad.add j = ⟨(ad.add j).block, (ad.add j).off, none⟩ := by
    generalize ad.add j = a at *
    obtain ⟨b, o, sp⟩ := a
    have : sp = none := hsp
    subst this
    rfl
  refine ⟨ad, (ad.add j).block, (ad.add j).off, cs, rfl, e, hy, hrow, by rw [← e]; exact hc, hrow.fro _⟩
set_option maxRecDepth 8000 in
set_option maxHeartbeats 102400000 in
theorem plays_w (A : Option Addr) (n c : Nat) (O : List OV) (w : World) (_ : True) (hS : Script w A n O) :
    Calls Tryz.prog 3 #[.slice A n c] w fun e w' => e = .returned (.bool true) ∧ Ext w w' := by
  refine calls_hid fun G hG => ?_
  have hgg : Hid (∀ w', Ext w w' → G (.returned (.bool true)) w') := Lib.hid fun w' hx => hG.out _ _ ⟨rfl, hx⟩
  have hU := up_any w
  have hn1 := hS.n
  have hcu := kcode_und
  have hcn := kcode_neq
  clear hG
  go_enter Tryz.func3, Tryz.ntmps3
  go_wp2_with (first
    | (go_at_call 7; (with_reducible refine hU.mono ?_); rintro e w1 ⟨rfl, hx1⟩)
    | (go_at_call 8; (with_reducible refine (fresh_any _).mono ?_); rintro e w3 ⟨d, s, rfl, hFr⟩; obtain ⟨S, bs3, cs3, hB3, hr3, hb3, hx3⟩ := fresh_bl hx1 hFr; have hL0 := LW.start hB3 hx3 hx1.size hb3 (Nat.zero_le _)))
  have hsz0 := hx1.size
  have hsz3 := hx3.size
  clear hFr hB3 hU
  go_loopw [5, 7] (fun sv i wr => ∃ (k s : Nat) (S : DS) (K : KS), k ≤ n ∧ i = .int .i64 k ∧ sv = .pointer (some ⟨s, 0, none⟩) ∧ Hid (S.room = 1099511627776) ∧ Hid (LWN w w1.heap.size d s w3.heap.size S K K (totO (O.take k)) wr)) (fun _ i _ => n - (intOf i).toNat)
  case atStart => exact ⟨0, s, S, emptyK, Nat.zero_le _, rfl, rfl, Lib.hid hr3, Lib.hid ⟨_, _, hL0⟩⟩
  case round =>
    obtain ⟨k, s, S, K, hk, rfl, rfl, hrm, hLN⟩ := hrel
    obtain ⟨bs, cs, hL⟩ := hLN.out
    clear hLN hL0
    by_cases hlt : k < n
    · have hkO : k < O.length := by rw [hS.len]; exact hlt
      obtain ⟨ad, rfl, p0, p1⟩ := (hS.ext hL.x).at hkO
      have ho := hS.at_ _ (List.getElem_mem hkO)
      have hTk := totO_take hkO
      have hTl := Nat.le_trans (totO_le O (k + 1)) hS.tot
      rw [hTk] at hTl
      replace hTk := Lib.hid hTk
      generalize O[k] = o at *
      have hPk := fun w1 => pick_any o.k 6 w1 ho.k (by omega)
      have hpb := pickI_bd (c := o.k) (m := 6) (by omega)
      have hMy := fun w1 (hx : Ext w w1) => may_ok ho hx
      have hBx : Row (wr.alloc (.cells #[.int .i64 o.k, .slice o.A o.W.length o.c] 34)) wr.heap.size 34 [.int .i64 o.k, .slice o.A o.W.length o.c] := Row.alloc wr _ _
      have hxb := ext_alloc wr (.cells #[.int .i64 o.k, .slice o.A o.W.length o.c] 34)
      have hnb := Lib.hid (hL.not (Nat.le_refl _))
      have hszw := hL.x.size
      replace hL := hL.ext hxb
      have g0 : (wr.alloc (.cells #[.int .i64 o.k, .slice o.A o.W.length o.c] 34)).cell? ⟨wr.heap.size, 0, none⟩ = some (.int .i64 o.k) := hBx.cell (i := 0) (by simp)
      have g1 : (wr.alloc (.cells #[.int .i64 o.k, .slice o.A o.W.length o.c] 34)).cell? ⟨wr.heap.size, 1, none⟩ = some (.slice o.A o.W.length o.c) := hBx.cell (i := 1) (by simp)
      have hKn := hL.bl.live.bds.n
      have hKl := hL.bl.live.bds.l
      have hCb := hL.C
      replace ho := Lib.hid ho
      clear hBx hxb
      rcases Int.lt_or_le (pickI o.k 6) 3 with hp3 | hp3
      · have hC : Hid (totO (O.take k) + (18 + (o.P.flatMap encW).length) ≤ 6291456) := Lib.hid hTl
        have hWn := ho.out.n
        rcases (by omega : pickI o.k 6 = 0 ∨ pickI o.k 6 = 1 ∨ pickI o.k 6 = 2) with hp | hp | hp
        all_goals
          rw [hp] at hPk
          clear hpb hp3
          by_cases hm : may0 o.P = 0
          · have hcd := kcode_0
            rw [hm] at hMy
            have hme : Hid (errV (may0 o.P) = .nilIface) := Lib.hid (by rw [hm]; rfl)
            by_cases hW0 : o.W.length = 0
            · have hst : Hid (stepK K o.P = K) := Lib.hid (by
                unfold stepK
                rw [if_pos (.inl (List.eq_nil_of_length_eq_zero (by unfold OV.P; rw [List.length_map]; exact hW0)))])
              have q3 : decide ((o.W.length : Int) > 0) = false := decide_eq_false (by omega)
              have q4 : ¬ (0 < o.W.length) := by omega
              replace hm := Lib.hid hm
              replace hW0 := Lib.hid hW0
              as_aux_lemma =>
                go_wp2_with (first
                      | (go_at_call 9; (with_reducible refine (hPk _).mono ?_); rintro e wP ⟨rfl, rfl⟩)
                      | (go_at_call 10; (with_reducible refine (own2_ok ho.out hL.x).mono ?_); rintro e wO ⟨T, cT, LO, rfl, hOw, hPw, hLl⟩; have g1 := hOw.E.cell g1; have hX0 := hL.lx hOw.E hOw.rows; have hTr := Lib.hid hOw.trow; have hRw := Lib.hid hOw.rows; have hrl := Lib.hid hL.r.lt.1; have hAp := lw_apply_room hL hOw hLl ho.out.n hPw ho.out.e hC.out hrm.out; rw [hme.out, hst.out] at hAp)
                      | (go_at_call 11; (with_reducible refine hAp.mono ?_); rintro e wB ⟨rfl, S2, bsB, csB, hr2, hL2, hsB⟩; clear hAp; have hX := hX0.move hL2 hsB; have hOv := hOw.ovr.keep hsB.k (fun y hy hm => by have h1 := hTr.out y hy; have h2 := (hL.bl.both.ge y hm).2; omega) (fun y hy hm => by have h1 := (hRw.out y hy).1; have h2 := (hL.bl.both.ge y hm).2; omega); have g1 := hsB.k.cell g1 hnb.out; have hrm := Lib.hid (hr2.trans hrm.out); have hvb := Lib.hid (fun x hx => (hOw.V x hx).ok.vb))
                      | (go_at_call 12; (with_reducible refine (hMy _ hX.lw.x).mono ?_); rintro e wM ⟨rfl, hxM⟩; have hX := hX.ext hxM; have hOv := hOv.ext hxM; have g1 := hxM.cell g1)
                      | (go_at_call 13; (with_reducible refine (hcd _).mono ?_); rintro e wN ⟨rfl, rfl⟩))
                replace hTl := Lib.hid hTl
                replace hLl := Lib.hid hLl
                clear hX0 hL hL2 hOw hPw hMy hcd g1 hCb hKn hKl hsz0 hsz3 hszw
                go_loopw [12] (fun i wq => ∃ q : Nat, q ≤ o.W.length ∧ i = .int .i64 q ∧ Hid (LX w wq w1.heap.size d s w3.heap.size S2 K K (totO (O.take k) + (18 + (o.P.flatMap encW).length)) bsB csB (rowsV LO)) ∧ Hid (Ovr wq T LO)) (fun i _ => o.W.length - (intOf i).toNat)
                case atStart => exact ⟨0, Nat.zero_le _, rfl, Lib.hid hX, Lib.hid hOv⟩
                case round =>
                  clear hX hOv
                  obtain ⟨q, hq, rfl, hX, hOv⟩ := hrel
                  by_cases hql : q < o.W.length
                  · exact absurd hql (by have := hW0.out; omega)
                  · obtain rfl : q = o.W.length := by omega
                    have hL := hX.out.lw
                    go_wp2_with (first
                                    | (go_at_call 24; (with_reducible refine (lw_stands hL).mono ?_); rintro e wF ⟨rfl, hxF⟩))
                    go_roundw
                    case rel => exact ⟨k + 1, s, _, _, hlt, (by simp), rfl, hrm, Lib.hid (by rw [hTk.out]; exact hX.out.lw.fin hxF (Nat.le_refl _) hTl.out)⟩
                    case measure => exact meas hlt
            · have hst : Hid (stepK K o.P = doB K o.P) := Lib.hid (by
                unfold stepK
                rw [if_neg fun h => h.elim (fun e => hW0 (by have := congrArg List.length e; simpa [OV.P] using this)) (fun e => e hm)])
              have q3 : decide ((o.W.length : Int) > 0) = true := decide_eq_true (by omega)
              have q4 : 0 < o.W.length := by omega
              replace hm := Lib.hid hm
              replace hW0 := Lib.hid hW0
              as_aux_lemma =>
                go_wp2_with (first
                      | (go_at_call 9; (with_reducible refine (hPk _).mono ?_); rintro e wP ⟨rfl, rfl⟩)
                      | (go_at_call 10; (with_reducible refine (own2_ok ho.out hL.x).mono ?_); rintro e wO ⟨T, cT, LO, rfl, hOw, hPw, hLl⟩; have g1 := hOw.E.cell g1; have hX0 := hL.lx hOw.E hOw.rows; have hTr := Lib.hid hOw.trow; have hRw := Lib.hid hOw.rows; have hrl := Lib.hid hL.r.lt.1; have hAp := lw_apply_room hL hOw hLl ho.out.n hPw ho.out.e hC.out hrm.out; rw [hme.out, hst.out] at hAp)
                      | (go_at_call 11; (with_reducible refine hAp.mono ?_); rintro e wB ⟨rfl, S2, bsB, csB, hr2, hL2, hsB⟩; clear hAp; have hX := hX0.move hL2 hsB; have hOv := hOw.ovr.keep hsB.k (fun y hy hm => by have h1 := hTr.out y hy; have h2 := (hL.bl.both.ge y hm).2; omega) (fun y hy hm => by have h1 := (hRw.out y hy).1; have h2 := (hL.bl.both.ge y hm).2; omega); have g1 := hsB.k.cell g1 hnb.out; have hrm := Lib.hid (hr2.trans hrm.out); have hvb := Lib.hid (fun x hx => (hOw.V x hx).ok.vb))
                      | (go_at_call 12; (with_reducible refine (hMy _ hX.lw.x).mono ?_); rintro e wM ⟨rfl, hxM⟩; have hX := hX.ext hxM; have hOv := hOv.ext hxM; have g1 := hxM.cell g1)
                      | (go_at_call 13; (with_reducible refine (hcd _).mono ?_); rintro e wN ⟨rfl, rfl⟩)
                      | (go_at_call 14; (with_reducible refine (lx_do hX ho.out.W ho.out.n (by omega) (by omega)).mono ?_); rintro e wG ⟨rfl, hX3, hkG⟩; have hX := hX3; have hOv := hOv.keep hkG (fun y hy hm => by rw [List.mem_singleton.1 hm] at hy; have h1 := hTr.out _ hy; have h2 := hrl.out; omega) (fun y hy hm => by rw [List.mem_singleton.1 hm] at hy; have h1 := (hRw.out _ hy).1; have h2 := hrl.out; omega)))
                replace hTl := Lib.hid hTl
                replace hLl := Lib.hid hLl
                clear hX0 hL hL2 hOw hPw hMy hcd g1 hCb hKn hKl hsz0 hsz3 hszw
                go_loopw [12] (fun i wq => ∃ q : Nat, q ≤ o.W.length ∧ i = .int .i64 q ∧ Hid (LX w wq w1.heap.size d s w3.heap.size S2 (doB K o.P) (doB K o.P) (totO (O.take k) + (18 + (o.P.flatMap encW).length)) bsB csB (rowsV LO)) ∧ Hid (Ovr wq T LO)) (fun i _ => o.W.length - (intOf i).toNat)
                case atStart => exact ⟨0, Nat.zero_le _, rfl, Lib.hid hX, Lib.hid hOv⟩
                case round =>
                  clear hX hOv
                  obtain ⟨q, hq, rfl, hX, hOv⟩ := hrel
                  by_cases hql : q < o.W.length
                  · have hqL : q < LO.length := by rw [hLl.out]; exact hql
                    have hxm := Lib.hid (List.getElem_mem hqL)
                    have hvx := hvb.out _ (List.getElem_mem hqL)
                    have hat := fun wq (h : Ovr wq T LO) => h.at hqL
                    generalize LO[q] = x at *
                    obtain ⟨adT, rfl, y1⟩ := hat _ hOv.out
                    go_wp2
                    go_loopw [13] (fun i wq => ∃ j : Nat, j ≤ x.v.length ∧ i = .int .i64 j ∧ Hid (LX w wq w1.heap.size d s w3.heap.size S2 (doB K o.P) (doB K o.P) (totO (O.take k) + (18 + (o.P.flatMap encW).length)) bsB csB (rowsV LO)) ∧ Hid (Ovr wq (some adT) LO)) (fun i _ => x.v.length - (intOf i).toNat)
                    case atStart => exact ⟨0, Nat.zero_le _, rfl, hX, hOv⟩
                    case round =>
                      clear y1 hX hOv
                      obtain ⟨j, hj, rfl, hX, hOv⟩ := hrel
                      obtain ⟨adT', e0, y1⟩ := hat _ hOv.out
                      injection e0 with e0
                      subst e0
                      by_cases hjl : j < x.v.length
                      · obtain ⟨hz, l, hll, hrd⟩ := hOv.out.val x hxm.out
                        obtain ⟨adx, yb, yo, cs0, hxA, hadd, hyR, hrow, hcell, hfr⟩ := set_at hz hrd (by rw [hll]; exact hjl)
                        rw [hxA] at y1
                        have hX4 := Lib.hid (fun v => (hX.out.ext (ext_drew _)).set (y := yb) (i := yo) (rowsV_mem hxm.out hyR) v)
                        have hOv4 := Lib.hid (fun z => (hOv.out.ext (ext_drew _)).set (i := yo) (hrow.ext (ext_drew _)) z)
                        rw [← hadd] at hcell hfr hX4 hOv4
                        clear hrow hadd hrd hz hxA
                        generalize l[j] = bj at *
                        go_wp2
                        go_region
                        all_goals
                          go_wp2
                          go_roundw
                          case rel => exact ⟨j + 1, hjl, (by simp), Lib.hid (hX4.out (bv (bj ^^^ 255))), Lib.hid (hOv4.out (bj ^^^ 255))⟩
                          case measure => exact meas hjl
                      · go_wp2
                        go_roundw
                        case rel => exact ⟨q + 1, hql, (by simp), hX, hOv⟩
                        case measure => exact meas hql
                  · obtain rfl : q = o.W.length := by omega
                    have hL := hX.out.lw
                    go_wp2_with (first
                                    | (go_at_call 24; (with_reducible refine (lw_stands hL).mono ?_); rintro e wF ⟨rfl, hxF⟩))
                    go_roundw
                    case rel => exact ⟨k + 1, s, _, _, hlt, (by simp), rfl, hrm, Lib.hid (by rw [hTk.out]; exact hX.out.lw.fin hxF (Nat.le_refl _) hTl.out)⟩
                    case measure => exact meas hlt
          · have hst : Hid (stepK K o.P = K) := Lib.hid (by unfold stepK; rw [if_pos (.inr hm)])
            have hcd := kcode_e (may0_le o.P)
            rw [errV_ne hm] at hcd
            have hme : Hid (errV (may0 o.P) = .iface 48 (.int .i64 (may0 o.P : Nat))) := Lib.hid (errV_ne hm)
            have q5 : (((may0 o.P : Nat) : Int) == 0) = false := beq_false_of_ne (by omega)
            generalize ((may0 o.P : Nat) : Int) = mz at *
            replace hm := Lib.hid hm
            as_aux_lemma =>
              go_wp2_with (first
                      | (go_at_call 9; (with_reducible refine (hPk _).mono ?_); rintro e wP ⟨rfl, rfl⟩)
                      | (go_at_call 10; (with_reducible refine (own2_ok ho.out hL.x).mono ?_); rintro e wO ⟨T, cT, LO, rfl, hOw, hPw, hLl⟩; have g1 := hOw.E.cell g1; have hX0 := hL.lx hOw.E hOw.rows; have hTr := Lib.hid hOw.trow; have hRw := Lib.hid hOw.rows; have hrl := Lib.hid hL.r.lt.1; have hAp := lw_apply_room hL hOw hLl ho.out.n hPw ho.out.e hC.out hrm.out; rw [hme.out, hst.out] at hAp)
                      | (go_at_call 11; (with_reducible refine hAp.mono ?_); rintro e wB ⟨rfl, S2, bsB, csB, hr2, hL2, hsB⟩; clear hAp; have hX := hX0.move hL2 hsB; have hOv := hOw.ovr.keep hsB.k (fun y hy hm => by have h1 := hTr.out y hy; have h2 := (hL.bl.both.ge y hm).2; omega) (fun y hy hm => by have h1 := (hRw.out y hy).1; have h2 := (hL.bl.both.ge y hm).2; omega); have g1 := hsB.k.cell g1 hnb.out; have hrm := Lib.hid (hr2.trans hrm.out); have hvb := Lib.hid (fun x hx => (hOw.V x hx).ok.vb))
                      | (go_at_call 12; (with_reducible refine (hMy _ hX.lw.x).mono ?_); rintro e wM ⟨rfl, hxM⟩; have hX := hX.ext hxM; have hOv := hOv.ext hxM; have g1 := hxM.cell g1)
                      | (go_at_call 13; (with_reducible refine (hcd _).mono ?_); rintro e wN ⟨rfl, rfl⟩))
              replace hTl := Lib.hid hTl
              replace hLl := Lib.hid hLl
              clear hX0 hL hL2 hOw hPw hMy hcd g1 hCb hKn hKl hsz0 hsz3 hszw
              go_loopw [12] (fun i wq => ∃ q : Nat, q ≤ o.W.length ∧ i = .int .i64 q ∧ Hid (LX w wq w1.heap.size d s w3.heap.size S2 K K (totO (O.take k) + (18 + (o.P.flatMap encW).length)) bsB csB (rowsV LO)) ∧ Hid (Ovr wq T LO)) (fun i _ => o.W.length - (intOf i).toNat)
              case atStart => exact ⟨0, Nat.zero_le _, rfl, Lib.hid hX, Lib.hid hOv⟩
              case round =>
                clear hX hOv
                obtain ⟨q, hq, rfl, hX, hOv⟩ := hrel
                by_cases hql : q < o.W.length
                · have hqL : q < LO.length := by rw [hLl.out]; exact hql
                  have hxm := Lib.hid (List.getElem_mem hqL)
                  have hvx := hvb.out _ (List.getElem_mem hqL)
                  have hat := fun wq (h : Ovr wq T LO) => h.at hqL
                  generalize LO[q] = x at *
                  obtain ⟨adT, rfl, y1⟩ := hat _ hOv.out
                  go_wp2
                  go_loopw [13] (fun i wq => ∃ j : Nat, j ≤ x.v.length ∧ i = .int .i64 j ∧ Hid (LX w wq w1.heap.size d s w3.heap.size S2 K K (totO (O.take k) + (18 + (o.P.flatMap encW).length)) bsB csB (rowsV LO)) ∧ Hid (Ovr wq (some adT) LO)) (fun i _ => x.v.length - (intOf i).toNat)
                  case atStart => exact ⟨0, Nat.zero_le _, rfl, hX, hOv⟩
                  case round =>
                    clear y1 hX hOv
                    obtain ⟨j, hj, rfl, hX, hOv⟩ := hrel
                    obtain ⟨adT', e0, y1⟩ := hat _ hOv.out
                    injection e0 with e0
                    subst e0
                    by_cases hjl : j < x.v.length
                    · obtain ⟨hz, l, hll, hrd⟩ := hOv.out.val x hxm.out
                      obtain ⟨adx, yb, yo, cs0, hxA, hadd, hyR, hrow, hcell, hfr⟩ := set_at hz hrd (by rw [hll]; exact hjl)
                      rw [hxA] at y1
                      have hX4 := Lib.hid (fun v => (hX.out.ext (ext_drew _)).set (y := yb) (i := yo) (rowsV_mem hxm.out hyR) v)
                      have hOv4 := Lib.hid (fun z => (hOv.out.ext (ext_drew _)).set (i := yo) (hrow.ext (ext_drew _)) z)
                      rw [← hadd] at hcell hfr hX4 hOv4
                      clear hrow hadd hrd hz hxA
                      generalize l[j] = bj at *
                      go_wp2
                      go_region
                      all_goals
                        go_wp2
                        go_roundw
                        case rel => exact ⟨j + 1, hjl, (by simp), Lib.hid (hX4.out (bv (bj ^^^ 255))), Lib.hid (hOv4.out (bj ^^^ 255))⟩
                        case measure => exact meas hjl
                    · go_wp2
                      go_roundw
                      case rel => exact ⟨q + 1, hql, (by simp), hX, hOv⟩
                      case measure => exact meas hql
                · obtain rfl : q = o.W.length := by omega
                  have hL := hX.out.lw
                  go_wp2_with (first
                                  | (go_at_call 24; (with_reducible refine (lw_stands hL).mono ?_); rintro e wF ⟨rfl, hxF⟩))
                  go_roundw
                  case rel => exact ⟨k + 1, s, _, _, hlt, (by simp), rfl, hrm, Lib.hid (by rw [hTk.out]; exact hX.out.lw.fin hxF (Nat.le_refl _) hTl.out)⟩
                  case measure => exact meas hlt
      · rcases (by omega : pickI o.k 6 = 3 ∨ pickI o.k 6 = 4 ∨ pickI o.k 6 = 5) with hp | hp | hp
        · rw [hp] at hPk
          obtain ⟨sl, hsl⟩ : ∃ sl, (snpB K).length = sl := ⟨_, rfl⟩
          have hsb := hL.bl.live.bds.sn
          rw [hsl] at hsb
          clear hMy
          by_cases h1 : 2097152 < sl
          · have h1s := Lib.hid h1
            have q1 : decide ((sl : Int) > 2097152) = true := decide_eq_true (by omega)
            replace h1 : Hid (2097152 < (snpB K).length) := Lib.hid (by rw [hsl]; exact h1)
            replace hsl := Lib.hid hsl
            as_aux_lemma =>
              go_wp2_with (first
                      | (go_at_call 9; (with_reducible refine (hPk _).mono ?_); rintro e wP ⟨rfl, rfl⟩)
                      | (go_at_call 15; (with_reducible refine (lw_compact_long hL h1.out).mono ?_); rintro e wB ⟨rfl, bsB, csB, hL2, hsB⟩; have hL := hL2)
                      | (go_at_call 16; (with_reducible refine (lw_snap' hL hsl.out).mono ?_); rintro e wC ⟨A5, c5, rfl, hx5, _, hc5, hm5, hr5⟩; have hL := hL.ext hx5))
              go_roundw
              case rel => exact ⟨k + 1, s, S, K, hlt, (by simp), rfl, hrm, Lib.hid (by rw [hTk.out]; exact hL.fin (Ext.refl _) (Nat.le_add_right _ _) hTl)⟩
              case measure => exact meas hlt
          · have h1s : Hid (sl ≤ 2097152) := Lib.hid (by omega)
            have q1 : decide ((sl : Int) > 2097152) = false := decide_eq_false (by omega)
            replace h1 : Hid ((snpB K).length ≤ 2097152) := Lib.hid (by rw [hsl]; omega)
            have hfl : (frame (snpB K)).length = 8 + sl := by rw [frame_length, hsl]
            replace hsl := Lib.hid hsl
            as_aux_lemma =>
              go_wp2_with (first
                      | (go_at_call 9; (with_reducible refine (hPk _).mono ?_); rintro e wP ⟨rfl, rfl⟩)
                      | (go_at_call 15; (with_reducible refine (lw_compact_room hL h1.out hrm.out).mono ?_); rintro e wB ⟨rfl, S2, bsB, csB, hr2, hfB, hcB, hL2, hsB⟩; have hL := hL2; have hrm := Lib.hid (hr2.trans hrm.out); replace hfB := Lib.hid hfB; replace hcB := Lib.hid hcB)
                      | (go_at_call 16; (with_reducible refine (lw_snap' hL hsl.out).mono ?_); rintro e wC ⟨A5, c5, rfl, hx5, _, hc5, hm5, hr5⟩; have hL := hL.ext hx5)
                      | (go_at_call 17; (with_reducible refine (rframe_any A5 sl c5 (snpB K) _ hsl.out hr5 h1s.out).mono ?_); rintro e wD ⟨A6, c6, rfl, hx6, _, _, _, hr6⟩; have hL := hL.ext hx6)
                      | (go_at_call 18; (with_reducible refine (lw_read_sn hL hfB.out hcB.out).mono ?_); rintro e wE ⟨A7, c7, rfl, hx7, hB7⟩; rw [hfl] at hB7; have hL := hL.ext hx7; have hcv1 := run_convert_rd (P := Tryz.prog) wE 43 9 5 Tryz.underlying43 Tryz.underlying5 Tryz.underlying9 A7 (8 + sl) c7 (frame (snpB K)) hfl hB7.rd; have hcv2 := run_convert_rd (P := Tryz.prog) wE 43 9 5 Tryz.underlying43 Tryz.underlying5 Tryz.underlying9 A6 (8 + sl) c6 (frame (snpB K)) hfl (hr6.ext hx7))
                      | (go_at_call 24; (with_reducible refine (lw_stands hL).mono ?_); rintro e wF ⟨rfl, hxF⟩))
              go_roundw
              case rel => exact ⟨k + 1, s, _, K, hlt, (by simp), rfl, hrm, Lib.hid (by rw [hTk.out]; exact hL.fin hxF (Nat.le_add_right _ _) hTl)⟩
              case measure => exact meas hlt
        · rw [hp] at hPk
          clear hMy
          as_aux_lemma =>
            go_wp2_with (first
                      | (go_at_call 9; (with_reducible refine (hPk _).mono ?_); rintro e wP ⟨rfl, rfl⟩)
                      | (go_at_call 19; (with_reducible refine (lw_open hL).mono ?_); rintro e wB ⟨s2, S2, rfl, hr2, bsB, csB, hL2⟩; have hL := hL2; have hrm := Lib.hid (hr2.trans hrm.out))
                      | (go_at_call 24; (with_reducible refine (lw_stands hL).mono ?_); rintro e wF ⟨rfl, hxF⟩))
            go_roundw
            case rel => exact ⟨k + 1, _, _, K, hlt, (by simp), rfl, hrm, Lib.hid (by rw [hTk.out]; exact hL.fin hxF (Nat.le_add_right _ _) hTl)⟩
            case measure => exact meas hlt
        · rw [hp] at hPk
          clear hMy
          by_cases hW0 : o.W.length = 0
          · have q3 : decide ((o.W.length : Int) > 0) = false := decide_eq_false (by omega)
            have q4 : ¬ (0 < o.W.length) := by omega
            replace hW0 := Lib.hid hW0
            as_aux_lemma =>
              go_wp2_with (first
                      | (go_at_call 9; (with_reducible refine (hPk _).mono ?_); rintro e wP ⟨rfl, rfl⟩)
                      | (go_at_call 24; (with_reducible refine (lw_stands hL).mono ?_); rintro e wF ⟨rfl, hxF⟩))
              go_roundw
              case rel => exact ⟨k + 1, s, S, K, hlt, (by simp), rfl, hrm, Lib.hid (by rw [hTk.out]; exact hL.fin hxF (Nat.le_add_right _ _) hTl)⟩
              case measure => exact meas hlt
          · have q3 : decide ((o.W.length : Int) > 0) = true := decide_eq_true (by omega)
            have q4 : 0 < o.W.length := by omega
            obtain ⟨ad0, k0, hA0, hz0, hk0⟩ : ∃ ad0 k0, o.A = some ad0 ∧ Hid (∀ w1, Ext w w1 → w1.cell? ad0 = some (.string k0)) ∧ Hid (k0.size ≤ 281474976710656) := by
              obtain ⟨ad0, hA, z0, _⟩ := (ho.out.W).at q4
              refine ⟨ad0, o.W[0].k, hA, Lib.hid fun w1 hx => ?_, Lib.hid (by have := (ho.out.W.ok _ (List.getElem_mem q4)).kb; omega)⟩
              have z1 : w.cell? ad0 = some (.string o.W[0].k) := z0
              exact hx.cell z1
            have g2 : (wr.alloc (.cells #[.int .i64 o.k, .slice o.A o.W.length o.c] 34)).cell? ⟨wr.heap.size, 1, none⟩ = some (.slice (some ad0) o.W.length o.c) := by rw [g1, hA0]
            have z0 := hz0.out _ hL.x
            clear g1 hA0
            obtain ⟨gl, hgl⟩ : ∃ gl, getK K.l k0.data.toList = gl := ⟨_, rfl⟩
            obtain ⟨gb, hgb⟩ : ∃ gb, (fndK K.l k0.data.toList).isSome = gb := ⟨_, rfl⟩
            obtain ⟨gn, hgn⟩ : ∃ gn, gl.length = gn := ⟨_, rfl⟩
            obtain ⟨kl, hkl⟩ : ∃ kl, keysK K.l k0.data.toList = kl := ⟨_, rfl⟩
            obtain ⟨kn, hkn⟩ : ∃ kn, kl.length = kn := ⟨_, rfl⟩
            replace hgl := Lib.hid hgl
            replace hgb := Lib.hid hgb
            replace hgn := Lib.hid hgn
            replace hkl := Lib.hid hkl
            replace hkn := Lib.hid hkn
            replace hW0 := Lib.hid hW0
            have hgbb : (gb != gb) = false := by simp
            as_aux_lemma =>
              go_wp2_with (first
                      | (go_at_call 9; (with_reducible refine (hPk _).mono ?_); rintro e wP ⟨rfl, rfl⟩)
                      | (go_at_call 20; (with_reducible refine (lw_get hL hk0.out hgl.out hgb.out hgn.out).mono ?_); rintro e w6 ⟨A6, c6, rfl, hx6, hr6⟩; have hL := hL.ext hx6; have g2 := hx6.cell g2; have z0 := hx6.cell z0)
                      | (go_at_call 21; (with_reducible refine (lw_rget hL hgl.out hgb.out hgn.out).mono ?_); rintro e w7 ⟨⟨A7, c7, rfl, hr7⟩, rfl⟩)
                      | (go_at_call 22; (with_reducible refine (lw_keys hL hkl.out hkn.out).mono ?_); rintro e w8 ⟨A8, c8, rfl, ho8, hx8⟩; have hL := hL.ext hx8; have g2 := hx8.cell g2; have z0 := hx8.cell z0)
                      | (go_at_call 23; (with_reducible refine (lw_rkeys hL hkl.out hkn.out).mono ?_); rintro e w9 ⟨A9, c9, rfl, ho9, hx9⟩; have hL := hL.ext hx9; have hcv1 := run_convert_rd (P := Tryz.prog) w9 43 9 5 Tryz.underlying43 Tryz.underlying5 Tryz.underlying9 A6 gn c6 gl hgn.out (hr6.ext (hx8.trans hx9)); have hcv2 := run_convert_rd (P := Tryz.prog) w9 43 9 5 Tryz.underlying43 Tryz.underlying5 Tryz.underlying9 A7 gn c7 gl hgn.out (hr7.ext (hx8.trans hx9))))
              have hkb : kn ≤ 1099511627776 := by
                have h1 : kl.length ≤ K.l.length := by
                  rw [← hkl.out]
                  unfold keysK
                  exact Nat.le_trans (List.length_filter_le _ _) (by simp)
                have := hkn.out
                omega
              replace hTl := Lib.hid hTl
              clear hcv1 hcv2 hCb hKn hKl hpb hp3 hsz0 hsz3 hszw
              go_loopw [28] (fun i wq => ∃ q : Nat, q ≤ kn ∧ i = .int .i64 q ∧ Hid (Ext w9 wq)) (fun i _ => kn - (intOf i).toNat)
              case atStart => exact ⟨0, Nat.zero_le _, rfl, Lib.hid (Ext.refl _)⟩
              case round =>
                obtain ⟨q, hq, rfl, hxq⟩ := hrel
                by_cases hql : q < kn
                · have hqk : q < kl.length := by rw [hkn.out]; exact hql
                  obtain ⟨a8, hA8, y8⟩ := rd_own (own_ext ho8 (hx9.trans hxq.out)) q (.string ⟨kl[q].toArray⟩) (by rw [List.getElem?_map, List.getElem?_eq_getElem hqk]; rfl)
                  obtain ⟨a9, hA9, y9⟩ := rd_own (own_ext ho9 hxq.out) q (.string ⟨kl[q].toArray⟩) (by rw [List.getElem?_map, List.getElem?_eq_getElem hqk]; rfl)
                  subst hA8
                  subst hA9
                  generalize kl[q] = sq at *
                  --AUX
                  go_wp2
                  go_quiet (fail)
                  all_goals
                    go_wp2
                    go_roundw
                    case rel => exact ⟨q + 1, hql, (by simp), Lib.hid (by first | exact hxq.out | exact hxq.out.trans (ext_drew _) | exact hxq.out.drewN _)⟩
                    case measure => exact meas hql
                · obtain rfl : q = kn := by omega
                  replace hL := hL.ext hxq.out
                  --AUX
                  go_wp2_with (first
                      | (go_at_call 24; (with_reducible refine (lw_stands hL).mono ?_); rintro e wF ⟨rfl, hxF⟩))
                  go_roundw
                  case rel => exact ⟨k + 1, s, S, K, hlt, (by simp), rfl, hrm, Lib.hid (by rw [hTk.out]; exact hL.fin hxF (Nat.le_add_right _ _) hTl.out)⟩
                  case measure => exact meas hlt
    · obtain rfl : k = n := by omega
      obtain ⟨lg, sn, hDf, hop, hl1, hl2⟩ := hL.bl.live.files (by have := hL.C; omega)
      have hfs := hDf.fnd_sn
      have hfl := hDf.fnd_log
      have hcs := hDf.cont_sn
      have hcl := hDf.cont_log
      replace hop := Lib.hid hop
      clear hDf
      rcases sn with _ | ys <;> rcases lg with _ | yl
      · have hRo := fun w1 => ropen_files (w := w1) none 0 0 [] false none 0 0 [] K (argB_none w1) (argB_none w1) hl2 hl1 (fun _ => rfl) hop.out
        replace hfs : Hid (fnd S snL = 9) := Lib.hid hfs
        replace hfl : Hid (fnd S logL = 9) := Lib.hid hfl
        clear hcs hcl
        as_aux_lemma =>
          go_wp2_with (first
            | (go_at_call 18; (with_reducible refine (lw_no_sn hL hfs.out).mono ?_); rintro e wE ⟨rfl, rfl⟩)
            | (go_at_call 18; (with_reducible refine (lw_no_log hL hfl.out).mono ?_); rintro e wE ⟨rfl, rfl⟩)
            | (go_at_call 25; (with_reducible refine (hRo _).mono ?_); rintro e wG ⟨r2, rfl, hxG, hrG⟩)
            | (go_at_call 24; (with_reducible refine (stands_new hL hxG hrG).mono ?_); rintro e wF ⟨rfl, hxF⟩))
          exact hgg.out _ (hL.x.trans (hxG.trans hxF))
      · have hRo := fun w1 A2 c2 h2 => ropen_files (w := w1) none 0 0 [] false A2 (ctF (some yl)).length c2 (ctF (some yl)) K (argB_none w1) h2 hl2 hl1 (fun _ => rfl) hop.out
        replace hfs : Hid (fnd S snL = 9) := Lib.hid hfs
        replace hfl : Hid (fnd S logL = 0) := Lib.hid hfl
        replace hcl := Lib.hid hcl
        clear hcs
        as_aux_lemma =>
          go_wp2_with (first
            | (go_at_call 18; (with_reducible refine (lw_no_sn hL hfs.out).mono ?_); rintro e wE ⟨rfl, rfl⟩)
            | (go_at_call 18; (with_reducible refine (lw_read_log hL hfl.out hcl.out).mono ?_); rintro e wE2 ⟨A7, c7, rfl, hx7, hB7⟩; have hL := hL.ext hx7)
            | (go_at_call 25; (with_reducible refine (hRo _ A7 c7 hB7).mono ?_); rintro e wG ⟨r2, rfl, hxG, hrG⟩)
            | (go_at_call 24; (with_reducible refine (stands_new hL hxG hrG).mono ?_); rintro e wF ⟨rfl, hxF⟩))
          exact hgg.out _ (hL.x.trans (hxG.trans hxF))
      · have hRo := fun w1 A1 c1 h1 => ropen_files (w := w1) A1 (ctF (some ys)).length c1 (ctF (some ys)) true none 0 0 [] K h1 (argB_none w1) hl2 hl1 (fun e => by cases e) hop.out
        replace hfs : Hid (fnd S snL = 0) := Lib.hid hfs
        replace hfl : Hid (fnd S logL = 9) := Lib.hid hfl
        replace hcs := Lib.hid hcs
        clear hcl
        as_aux_lemma =>
          go_wp2_with (first
            | (go_at_call 18; (with_reducible refine (lw_read_sn hL hfs.out hcs.out).mono ?_); rintro e wE ⟨A6, c6, rfl, hx6, hB6⟩; have hL := hL.ext hx6)
            | (go_at_call 18; (with_reducible refine (lw_no_log hL hfl.out).mono ?_); rintro e wE ⟨rfl, rfl⟩)
            | (go_at_call 25; (with_reducible refine (hRo _ A6 c6 hB6).mono ?_); rintro e wG ⟨r2, rfl, hxG, hrG⟩)
            | (go_at_call 24; (with_reducible refine (stands_new hL hxG hrG).mono ?_); rintro e wF ⟨rfl, hxF⟩))
          exact hgg.out _ (hL.x.trans (hxG.trans hxF))
      · have hRo := fun w1 A1 c1 h1 A2 c2 h2 => ropen_files (w := w1) A1 (ctF (some ys)).length c1 (ctF (some ys)) true A2 (ctF (some yl)).length c2 (ctF (some yl)) K h1 h2 hl2 hl1 (fun e => by cases e) hop.out
        replace hfs : Hid (fnd S snL = 0) := Lib.hid hfs
        replace hfl : Hid (fnd S logL = 0) := Lib.hid hfl
        replace hcs := Lib.hid hcs
        replace hcl := Lib.hid hcl
        as_aux_lemma =>
          go_wp2_with (first
            | (go_at_call 18; (with_reducible refine (lw_read_sn hL hfs.out hcs.out).mono ?_); rintro e wE ⟨A6, c6, rfl, hx6, hB6⟩; have hL := hL.ext hx6)
            | (go_at_call 18; (with_reducible refine (lw_read_log hL hfl.out hcl.out).mono ?_); rintro e wE2 ⟨A7, c7, rfl, hx7, hB7⟩; have hL := hL.ext hx7)
            | (go_at_call 25; (with_reducible refine (hRo _ A6 c6 ⟨hB6.len, hB6.le, hB6.max, hB6.rd.ext hx7⟩ A7 c7 hB7).mono ?_); rintro e wG ⟨r2, rfl, hxG, hrG⟩)
            | (go_at_call 24; (with_reducible refine (stands_new hL hxG hrG).mono ?_); rintro e wF ⟨rfl, hxF⟩))
          exact hgg.out _ (hL.x.trans (hxG.trans hxF))
end Go.Proofs.YtjnbbfhoegeppaaGreatDoor
