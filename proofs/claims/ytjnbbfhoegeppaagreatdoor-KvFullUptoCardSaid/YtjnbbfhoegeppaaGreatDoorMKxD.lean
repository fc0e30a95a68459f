/-
  KvFull: the law's walk.
-/
import Derived.Test.YtjnbbfhoegeppaaGreatDoorMKxC
set_option linter.unusedSimpArgs false
set_option linter.unusedVariables false
namespace Go.Proofs.YtjnbbfhoegeppaaGreatDoor
open Go.RowKit Go.Cv Go.Cv.Dk Go.Cv.Wal Go.Cv.Kv
/-- A disk with so much room, a store on it. -/
theorem full_new {w w1 w2 : World} {B d : Nat} {bs : List Nat} {room : Int} {e : Ending} (hD : Dsk w1 B d (newD room) bs) (hx : Ext w w1) (hB : w.heap.size ≤ B) (h : Opn w1 B d (newD room) emptyK 0 bs e w2) :
    ∃ s S bs' cs', e = .returned (.tuple #[.pointer (some ⟨s, 0, none⟩), .nilIface]) ∧ BL w2 B d s S emptyK 0 bs' cs' ∧ S.room = room ∧ S.bud = -1 ∧ Ext w w2 := by
  obtain ⟨S', s, bs', cs', hl, hr, hb, he, hB', hS, _⟩ := h
  exact ⟨s, S', bs', cs', he, ⟨hB', hl⟩, hr, hb rfl, ext_keep hx hS.k fun x hm => Nat.le_trans hB (hD.lt x hm).1⟩
set_option maxRecDepth 8000 in
set_option maxHeartbeats 51200000 in
theorem full_w (room : Int) (A : Option Addr) (n c : Nat) (O : List OV) (w : World) (_ : True) (hroom : -9223372036854775808 ≤ room ∧ room ≤ 9223372036854775807) (hS : Script w A n O) :
    Calls Tryz.prog 5 #[.int .i64 room, .slice A n c] w fun e w' => e = .returned (.bool true) ∧ Ext w w' := by
  refine calls_hid fun G hG => ?_
  have hgg : Hid (∀ w', Ext w w' → G (.returned (.bool true)) w') := Lib.hid fun w' hx => hG.out _ _ ⟨rfl, hx⟩
  have hU := up_any w
  have hcu := kcode_und
  have hcn := kcode_neq
  clear hG
  by_cases hr0 : room < 0
  · go_enter Tryz.func5, Tryz.ntmps5
    go_wp2_with (first
      | (go_at_call 7; (with_reducible refine hU.mono ?_); rintro e w1 ⟨rfl, hx1⟩))
    exact hgg.out _ hx1
  · have hN := fun w1 => new_dk room w1 (by omega) hroom.2
    go_enter Tryz.func5, Tryz.ntmps5
    go_wp2_with (first
      | (go_at_call 7; (with_reducible refine hU.mono ?_); rintro e w1 ⟨rfl, hx1⟩)
      | (go_at_call 26; (with_reducible refine (hN _).mono ?_); rintro e w2 ⟨d, bs, rfl, hD, hx2⟩; have hO := kopen_live w1.heap.size d (newD room) emptyK 0 bs w2 hD (live_newD _) (by omega) rfl)
      | (go_at_call 19; (with_reducible refine hO.mono ?_); rintro e w3 hq3; obtain ⟨s, S, bs3, cs3, rfl, hB3, hr3, hb3, hx3⟩ := full_new hD (hx1.trans hx2) hx1.size hq3; have hL0 := LW.start hB3 hx3 hx1.size hb3 (Nat.zero_le _)))
    have hsz0 := hx1.size
    have hsz3 := hx3.size
    clear hD hO hB3 hU hN
    go_loopw [11] (fun i wr => ∃ (k : Nat) (S : DS) (K : KS), k ≤ n ∧ i = .int .i64 k ∧ Hid (S.room = room) ∧ Hid (LWN w w1.heap.size d s w3.heap.size S K K (totO (O.take k)) wr)) (fun i _ => n - (intOf i).toNat)
    case atStart => exact ⟨0, S, emptyK, Nat.zero_le _, rfl, Lib.hid hr3, Lib.hid ⟨_, _, hL0⟩⟩
    case round =>
      obtain ⟨k, S, K, hk, rfl, hrm, hLN⟩ := hrel
      obtain ⟨bs, cs, hL⟩ := hLN.out
      clear hLN hL0
      by_cases hlt : k < n
      · have hkO : k < O.length := by rw [hS.len]; exact hlt
        obtain ⟨ad, rfl, p0, p1⟩ := (hS.ext hL.x).at hkO
        have ho := hS.at_ _ (List.getElem_mem hkO)
        have hTk := totO_take hkO
        have hTl := Nat.le_trans (totO_le O (k + 1)) hS.tot
        rw [hTk] at hTl
        replace hTk := Lib.hid hTk
        generalize O[k] = o at *
        have hwk : wrap64 ((k : Int) + 1) = (k : Int) + 1 := IntWalk.wrap64_in _ (by have := hS.n; omega)
        have hPk := fun w1 => pick_any o.k 4 w1 ho.k (by omega)
        have hMy := fun w1 (hx : Ext w w1) => may_ok ho hx
        have hBx : Row (wr.alloc (.cells #[.int .i64 o.k, .slice o.A o.W.length o.c] 34)) wr.heap.size 34 [.int .i64 o.k, .slice o.A o.W.length o.c] := Row.alloc wr _ _
        have hxb := ext_alloc wr (.cells #[.int .i64 o.k, .slice o.A o.W.length o.c] 34)
        have hnb := hL.not (Nat.le_refl _)
        have hszw := hL.x.size
        replace hL := hL.ext hxb
        have g0 : (wr.alloc (.cells #[.int .i64 o.k, .slice o.A o.W.length o.c] 34)).cell? ⟨wr.heap.size, 0, none⟩ = some (.int .i64 o.k) := hBx.cell (i := 0) (by simp)
        have g1 : (wr.alloc (.cells #[.int .i64 o.k, .slice o.A o.W.length o.c] 34)).cell? ⟨wr.heap.size, 1, none⟩ = some (.slice o.A o.W.length o.c) := hBx.cell (i := 1) (by simp)
        have hus := hL.bl.live.used
        have hCb := hL.C
        obtain ⟨u, hu⟩ : ∃ u, used S.l = u := ⟨_, rfl⟩
        rw [hu] at hus
        have hru : IntKind.i64.wrap (room - (u : Int)) = room - u := IntWalk.i64_in _ (by omega)
        have hru2 : wrap64 (room - (u : Int)) = room - u := IntWalk.wrap64_in _ (by omega)
        replace hu := Lib.hid hu
        replace ho := Lib.hid ho
        by_cases hp : pickI o.k 4 = 3
        · rw [hp] at hPk
          obtain ⟨sl, hsl⟩ : ∃ sl, (snpB K).length = sl := ⟨_, rfl⟩
          have hsb := hL.bl.live.bds.sn
          rw [hsl] at hsb
          by_cases h1 : 2097152 < sl
          · have h1s := Lib.hid h1
            replace h1 : Hid (2097152 < (snpB K).length) := Lib.hid (by rw [hsl]; exact h1)
            replace hsl := Lib.hid hsl
            clear hBx hxb
            go_wp2_with (first
          | (go_at_call 28; (with_reducible refine (lw_used' hL hu.out).mono ?_); rintro e wA ⟨rfl, hxA⟩; have hL := hL.ext hxA; have g0 := hxA.cell g0; have g1 := hxA.cell g1; have hAr := hL.x)
          | (go_at_call 9; (with_reducible refine (hPk _).mono ?_); rintro e wP ⟨rfl, rfl⟩)
          | (go_at_call 15; (with_reducible refine (lw_compact_long hL h1.out).mono ?_); rintro e wB ⟨rfl, bsB, csB, hL2, hsB⟩; have hL := hL2)
          | (go_at_call 16; (with_reducible refine (lw_snap' hL hsl.out).mono ?_); rintro e wC ⟨A5, c5, rfl, hx5, _, hc5, hm5, hr5⟩; have hL := hL.ext hx5)
          | (go_at_call 17; (with_reducible refine (rframe_long A5 sl c5 _ h1s.out (by omega)).mono ?_); rintro e wD ⟨rfl, rfl⟩))
            go_roundw
            case rel => exact ⟨k + 1, S, K, hlt, (by rw [hwk]; simp), hrm, Lib.hid (by rw [hTk.out]; exact hL.fin (Ext.refl _) (Nat.le_add_right _ _) hTl)⟩
            case measure => rw [hwk]; exact meas hlt
          · have h1s : Hid (sl ≤ 2097152) := Lib.hid (by omega)
            by_cases h2 : ((frame (snpB K)).length : Int) > S.room - used S.l
            · replace h2 := Lib.hid h2
              have h2s : ¬ (8 + (sl : Int) ≤ room - u) := by have := h2.out; rw [frame_length, hrm.out, hu.out, hsl] at this; omega
              have q1 : decide (8 + (sl : Int) ≤ room - u) = false := decide_eq_false h2s
              have q2 : decide (((8 + sl : Nat) : Int) ≤ room - u) = false := decide_eq_false (by omega)
              replace h1 : Hid ((snpB K).length ≤ 2097152) := Lib.hid (by rw [hsl]; omega)
              replace h2s := Lib.hid h2s
              replace hsl := Lib.hid hsl
              clear hBx hxb
              go_wp2_with (first
          | (go_at_call 28; (with_reducible refine (lw_used' hL hu.out).mono ?_); rintro e wA ⟨rfl, hxA⟩; have hL := hL.ext hxA; have g0 := hxA.cell g0; have g1 := hxA.cell g1; have hAr := hL.x)
          | (go_at_call 28; (with_reducible refine (lw_used' hL hu.out).mono ?_); rintro e wA2 ⟨rfl, hxA2⟩; have hL := hL.ext hxA2)
          | (go_at_call 9; (with_reducible refine (hPk _).mono ?_); rintro e wP ⟨rfl, rfl⟩)
          | (go_at_call 15; (with_reducible refine (lw_compact_full hL h1.out h2.out).mono ?_); rintro e wB ⟨rfl, bsB, csB, hL2, hsB⟩; have hL := hL2)
          | (go_at_call 16; (with_reducible refine (lw_snap' hL hsl.out).mono ?_); rintro e wC ⟨A5, c5, rfl, hx5, _, hc5, hm5, hr5⟩; have hL := hL.ext hx5)
          | (go_at_call 17; (with_reducible refine (rframe_any A5 sl c5 (snpB K) _ hsl.out hr5 h1s.out).mono ?_); rintro e wD ⟨A6, c6, rfl, hx6, _, _, _, _⟩; have hL := hL.ext hx6)
          | (go_at_call 18; (with_reducible refine (lw_nw hL).mono ?_); rintro e wE ⟨rfl, rfl⟩)
          | (go_at_call 24; (with_reducible refine (lw_stands hL).mono ?_); rintro e wF ⟨rfl, hxF⟩))
              go_roundw
              case rel => exact ⟨k + 1, S, K, hlt, (by rw [hwk]; simp), hrm, Lib.hid (by rw [hTk.out]; exact hL.fin hxF (Nat.le_add_right _ _) hTl)⟩
              case measure => rw [hwk]; exact meas hlt
            · replace h2 : Hid (((frame (snpB K)).length : Int) ≤ S.room - used S.l) := Lib.hid (by omega)
              have h2s : 8 + (sl : Int) ≤ room - u := by have := h2.out; rw [frame_length, hrm.out, hu.out, hsl] at this; omega
              have q1 : decide (8 + (sl : Int) ≤ room - u) = true := decide_eq_true h2s
              have q2 : decide (((8 + sl : Nat) : Int) ≤ room - u) = true := decide_eq_true (by omega)
              replace h1 : Hid ((snpB K).length ≤ 2097152) := Lib.hid (by rw [hsl]; omega)
              replace h2s := Lib.hid h2s
              replace hsl := Lib.hid hsl
              clear hBx hxb
              go_wp2_with (first
          | (go_at_call 28; (with_reducible refine (lw_used' hL hu.out).mono ?_); rintro e wA ⟨rfl, hxA⟩; have hL := hL.ext hxA; have g0 := hxA.cell g0; have g1 := hxA.cell g1; have hAr := hL.x)
          | (go_at_call 9; (with_reducible refine (hPk _).mono ?_); rintro e wP ⟨rfl, rfl⟩)
          | (go_at_call 15; (with_reducible refine (lw_compact_ok hL h1.out h2.out).mono ?_); rintro e wB ⟨rfl, S2, bsB, csB, hr2, _, _, hL2, hsB⟩; have hL := hL2; have hrm := Lib.hid (hr2.trans hrm.out))
          | (go_at_call 16; (with_reducible refine (lw_snap' hL hsl.out).mono ?_); rintro e wC ⟨A5, c5, rfl, hx5, _, hc5, hm5, hr5⟩; have hL := hL.ext hx5)
          | (go_at_call 17; (with_reducible refine (rframe_any A5 sl c5 (snpB K) _ hsl.out hr5 h1s.out).mono ?_); rintro e wD ⟨A6, c6, rfl, hx6, _, _, _, _⟩; have hL := hL.ext hx6)
          | (go_at_call 18; (with_reducible refine (lw_nw hL).mono ?_); rintro e wE ⟨rfl, rfl⟩)
          | (go_at_call 24; (with_reducible refine (lw_stands hL).mono ?_); rintro e wF ⟨rfl, hxF⟩))
              go_roundw
              case rel => exact ⟨k + 1, _, K, hlt, (by rw [hwk]; simp), hrm, Lib.hid (by rw [hTk.out]; exact hL.fin hxF (Nat.le_add_right _ _) hTl)⟩
              case measure => rw [hwk]; exact meas hlt
        · have q0 : (pickI o.k 4 == 3) = false := by simpa using hp
          generalize pickI o.k 4 = pv at *
          replace hp := Lib.hid hp
          by_cases hm : may0 o.P = 0
          · rw [hm] at hMy
            have hKn := hL.bl.live.bds.n
            by_cases hW0 : o.W.length = 0
            · have q3 : decide ((o.W.length : Int) > 0) = false := decide_eq_false (by omega)
              have q4 : ¬ (0 < o.W.length) := by omega
              replace hW0 := Lib.hid hW0
              clear hBx hxb
              go_wp2_with (first
          | (go_at_call 28; (with_reducible refine (lw_used' hL hu.out).mono ?_); rintro e wA ⟨rfl, hxA⟩; have hL := hL.ext hxA; have g0 := hxA.cell g0; have g1 := hxA.cell g1; have hAr := hL.x)
          | (go_at_call 9; (with_reducible refine (hPk _).mono ?_); rintro e wP ⟨rfl, rfl⟩)
          | (go_at_call 12; (with_reducible refine (hMy _ hL.x).mono ?_); rintro e wM ⟨rfl, hxM⟩; have hL := hL.ext hxM; have g1 := hxM.cell g1)
          | (go_at_call 24; (with_reducible refine (lw_stands hL).mono ?_); rintro e wF ⟨rfl, hxF⟩))
              go_roundw
              case rel => exact ⟨k + 1, S, K, hlt, (by rw [hwk]; simp), hrm, Lib.hid (by rw [hTk.out]; exact hL.fin hxF (Nat.le_add_right _ _) hTl)⟩
              case measure => rw [hwk]; exact meas hlt
            · have h0 : Hid (o.P ≠ []) := Lib.hid (fun e => hW0 (by have := congrArg List.length e; simpa [OV.P] using this))
              have q3 : decide ((o.W.length : Int) > 0) = true := decide_eq_true (by omega)
              have q4 : (0 : Int) < (o.W.length : Int) := by omega
              obtain ⟨rc, hrc⟩ : ∃ rc, recB (K.n + 1) o.P = rc := ⟨_, rfl⟩
              obtain ⟨rl, hrl⟩ : ∃ rl, rc.length = rl := ⟨_, rfl⟩
              have hrb : rl ≤ 2097152 := by rw [← hrl, ← hrc, recB_ln]; have := ho.out.e; omega
              have hwr : IntKind.i64.wrap ((K.n : Int) + 1) = (K.n : Int) + 1 := IntWalk.i64_in _ (by omega)
              have hRec := fun w1 (hx : Ext w w1) => rec_ok (n := K.n) ho.out (by omega) hrc hrl hx
              have hC : Hid (totO (O.take k) + (18 + (o.P.flatMap encW).length) ≤ 6291456) := Lib.hid hTl
              have hnb' := Lib.hid hnb
              replace hm := Lib.hid hm
              replace hW0 := Lib.hid hW0
              replace hrl := Lib.hid hrl
              replace hrb := Lib.hid hrb
              by_cases h2 : ((frame (recB (K.n + 1) o.P)).length : Int) > S.room - used S.l
              · replace h2 := Lib.hid h2
                have h2s : ¬ (8 + (rl : Int) ≤ room - u) := by have := h2.out; rw [frame_length, hrm.out, hu.out, hrc, hrl.out] at this; omega
                have q1 : decide (8 + (rl : Int) ≤ room - u) = false := decide_eq_false h2s
                have q2 : decide (((8 + rl : Nat) : Int) ≤ room - u) = false := decide_eq_false (by omega)
                replace h2s := Lib.hid h2s
                replace hrc := Lib.hid hrc
                clear hBx hxb hnb
                go_wp2_with (first
          | (go_at_call 28; (with_reducible refine (lw_used' hL hu.out).mono ?_); rintro e wA ⟨rfl, hxA⟩; have hL := hL.ext hxA; have g0 := hxA.cell g0; have g1 := hxA.cell g1; have hAr := hL.x)
          | (go_at_call 9; (with_reducible refine (hPk _).mono ?_); rintro e wP ⟨rfl, rfl⟩)
          | (go_at_call 12; (with_reducible refine (hMy _ hL.x).mono ?_); rintro e wM ⟨rfl, hxM⟩; have hL := hL.ext hxM; have g1 := hxM.cell g1)
          | (go_at_call 10; (with_reducible refine (own_ok ho.out hL.x).mono ?_); rintro e wO ⟨T, cT, LO, rfl, hOw, hPw, hLl⟩; have g1 := hOw.E.cell g1)
          | (go_at_call 11; (with_reducible refine (lw_apply_full hL hOw hLl ho.out.n hPw h0.out hm.out ho.out.e hC.out h2.out).mono ?_); rintro e wB ⟨rfl, bsB, csB, hL2, hsB⟩; have g1 := hsB.k.cell g1 hnb'.out; have hL := hL2; have cr := hL.cnt))
                go_region_law (first
                  | (go_simp; go_at_call 29; ((with_reducible refine (hRec _ (hL.x.trans (ext_drew _))).mono ?_); rintro e wR ⟨A7, c7, rfl, hx7, _, hc7, hm7, hr7⟩))
                  | (go_simp; go_at_call 17; ((with_reducible refine (rframe_any A7 rl c7 rc _ hrl.out hr7 hrb.out).mono ?_); rintro e wQ ⟨A8, c8, rfl, hx8, _, _, _, _⟩)))
                all_goals
                  replace hL := hL.ext (((ext_drew _).trans hx7).trans hx8)
                  go_wp2_with (first
                    | (go_at_call 28; (with_reducible refine (lw_used' hL hu.out).mono ?_); rintro e wA2 ⟨rfl, hxA2⟩; have hL := hL.ext hxA2)
                    | (go_at_call 24; (with_reducible refine (lw_stands hL).mono ?_); rintro e wF ⟨rfl, hxF⟩))
                  go_roundw
                  case rel => exact ⟨k + 1, S, K, hlt, (by rw [hwk]; simp), hrm, Lib.hid (by rw [hTk.out]; exact hL.fin hxF (Nat.le_add_right _ _) hTl)⟩
                  case measure => rw [hwk]; exact meas hlt
              · replace h2 : Hid (((frame (recB (K.n + 1) o.P)).length : Int) ≤ S.room - used S.l) := Lib.hid (by omega)
                have h2s : 8 + (rl : Int) ≤ room - u := by have := h2.out; rw [frame_length, hrm.out, hu.out, hrc, hrl.out] at this; omega
                have q1 : decide (8 + (rl : Int) ≤ room - u) = true := decide_eq_true h2s
                have q2 : decide (((8 + rl : Nat) : Int) ≤ room - u) = true := decide_eq_true (by omega)
                replace h2s := Lib.hid h2s
                replace hrc := Lib.hid hrc
                have hKl := hL.bl.live.bds.l
                clear hBx hxb hnb
                go_wp2_with (first
          | (go_at_call 28; (with_reducible refine (lw_used' hL hu.out).mono ?_); rintro e wA ⟨rfl, hxA⟩; have hL := hL.ext hxA; have g0 := hxA.cell g0; have g1 := hxA.cell g1; have hAr := hL.x)
          | (go_at_call 9; (with_reducible refine (hPk _).mono ?_); rintro e wP ⟨rfl, rfl⟩)
          | (go_at_call 12; (with_reducible refine (hMy _ hL.x).mono ?_); rintro e wM ⟨rfl, hxM⟩; have hL := hL.ext hxM; have g1 := hxM.cell g1)
          | (go_at_call 10; (with_reducible refine (own_ok ho.out hL.x).mono ?_); rintro e wO ⟨T, cT, LO, rfl, hOw, hPw, hLl⟩; have g1 := hOw.E.cell g1)
          | (go_at_call 11; (with_reducible refine (lw_apply_ok hL hOw hLl ho.out.n hPw h0.out hm.out ho.out.e hC.out h2.out).mono ?_); rintro e wB ⟨rfl, S2, bsB, csB, hr2, hL2, hsB⟩; have g1 := hsB.k.cell g1 hnb'.out; have hL := hL2; have cr := hL.cnt; have hrm := Lib.hid (hr2.trans hrm.out)))
                go_region_law (first
                  | (go_simp; go_at_call 29; ((with_reducible refine (hRec _ (hL.x.trans (ext_drew _))).mono ?_); rintro e wR ⟨A7, c7, rfl, hx7, _, hc7, hm7, hr7⟩))
                  | (go_simp; go_at_call 17; ((with_reducible refine (rframe_any A7 rl c7 rc _ hrl.out hr7 hrb.out).mono ?_); rintro e wQ ⟨A8, c8, rfl, hx8, _, _, _, _⟩)))
                all_goals
                  have g1 := (((ext_drew _).trans hx7).trans hx8).cell g1
                  replace hL := hL.ext (((ext_drew _).trans hx7).trans hx8)
                  go_wp2_with (first
                    | (go_at_call 14; (with_reducible refine (lw_do hL ho.out.W ho.out.n (by omega) (by omega)).mono ?_); rintro e wG ⟨rfl, hL3⟩; have hL := hL3)
                    | (go_at_call 24; (with_reducible refine (lw_stands hL).mono ?_); rintro e wF ⟨rfl, hxF⟩))
                  go_roundw
                  case rel => exact ⟨k + 1, _, _, hlt, (by rw [hwk]; simp), hrm, Lib.hid (by rw [hTk.out]; exact hL.fin hxF (Nat.le_refl _) hTl)⟩
                  case measure => rw [hwk]; exact meas hlt
          · have q3 : ((may0 o.P : Int) == 0) = false := beq_false_of_ne (by omega)
            generalize may0 o.P = mm at *
            replace hm := Lib.hid hm
            clear hBx hxb
            go_wp2_with (first
          | (go_at_call 28; (with_reducible refine (lw_used' hL hu.out).mono ?_); rintro e wA ⟨rfl, hxA⟩; have hL := hL.ext hxA; have g0 := hxA.cell g0; have g1 := hxA.cell g1; have hAr := hL.x)
          | (go_at_call 9; (with_reducible refine (hPk _).mono ?_); rintro e wP ⟨rfl, rfl⟩)
          | (go_at_call 12; (with_reducible refine (hMy _ hL.x).mono ?_); rintro e wM ⟨rfl, hxM⟩; have hL := hL.ext hxM; have g1 := hxM.cell g1)
          | (go_at_call 24; (with_reducible refine (lw_stands hL).mono ?_); rintro e wF ⟨rfl, hxF⟩))
            go_roundw
            case rel => exact ⟨k + 1, S, K, hlt, (by rw [hwk]; simp), hrm, Lib.hid (by rw [hTk.out]; exact hL.fin hxF (Nat.le_add_right _ _) hTl)⟩
            case measure => rw [hwk]; exact meas hlt
      · obtain rfl : k = n := by omega
        go_wp2_with (first
          | (go_at_call 19; (with_reducible refine (lw_open hL).mono ?_); rintro e w4 ⟨s4, S4, rfl, _, bs4, cs4, hL4⟩)
          | (go_at_call 24; (with_reducible refine (lw_stands hL4).mono ?_); rintro e wF ⟨rfl, hxF⟩))
        exact hgg.out _ (hL4.x.trans hxF)
theorem fullk_w (room : Int) (A : Option Addr) (n c : Nat) (O : List OV) (w : World) (ht : True) (hroom : (Lit.int .i64 room).wf = true) (hS : Script w A n O) :
    Calls Tryz.prog 5 #[.int .i64 room, .slice A n c] w fun e w' => e = .returned (.bool true) ∧ Ext w w' :=
  full_w room A n c O w ht (kwf_i64 hroom) hS
end Go.Proofs.YtjnbbfhoegeppaaGreatDoor
