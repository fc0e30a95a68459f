/-
  KvCuts: the law's walk.
-/
import Derived.Test.YtjnbbfhoegeppaaGreatDoorMKxM
import Derived.Test.YtjnbbfhoegeppaaGreatDoorMKxB
import Derived.Test.YtjnbbfhoegeppaaGreatDoorMArgsI
import Derived.Deep.CutRange
import Derived.Deep.LoopGhost
set_option linter.unusedSimpArgs false
set_option linter.unusedVariables false
namespace Go.Proofs.YtjnbbfhoegeppaaGreatDoor
open Go.RowKit Go.Cv Go.Cv.Dk Go.Cv.Wal Go.Cv.Kv
theorem fresh_bl2 {w w1 w2 : World} {d s : Nat} (hx : Ext w w1) (h : Fresh0 w1 1099511627776 d s w2) : ∃ S bs cs, BL w2 w1.heap.size d s S emptyK 0 bs cs ∧ S.room = 1099511627776 ∧ S.bud = -1 ∧ Ext w w2 := by
  obtain ⟨S, bs, cs, h1, h2, h3, h4⟩ := h
  exact ⟨S, bs, cs, h1, h2, h3, hx.trans h4⟩
theorem LU.start {w0 w : World} {B d s : Nat} {S : DS} {C : Nat} {bs cs : List Nat} (h : BL w B d s S emptyK C bs cs) (hx : Ext w0 w) (hB : w0.heap.size ≤ B) (hbud : S.bud = -1) (hr : S.room = 1099511627776) (hC : C ≤ 6291456) :
    LU w0 (w.alloc (.cells #[.slice none 0 0, .int .i64 0] 31)) B d s w.heap.size S emptyK C bs cs := by
  have h1 := LW.start h hx hB hbud hC
  exact ⟨⟨h1.r, h1.x, h1.B, h1.rb, h1.bl.both.ge, hr, hC⟩, h1.bl.both, h1.bl.live⟩
theorem argI_at {w w' : World} {A : Option Addr} {n c : Nat} {l : List Int} (h : ArgI w A n c l) (hx : Ext w w') {k : Nat} (hk : k < n) : ∃ ad z, A = some ad ∧ w'.cell? (ad.add k) = some (.int .i64 z) ∧ -9223372036854775808 ≤ z ∧ z ≤ 9223372036854775807 := by
  have hl : k < l.length := by rw [h.len]; exact hk
  obtain ⟨ad, rfl, h1⟩ := h.rd k (.int .i64 l[k]) (by rw [List.getElem?_map, List.getElem?_eq_getElem hl]; rfl)
  obtain ⟨h2, h3⟩ := kwf_i64 (h.wf _ (List.getElem_mem hl))
  exact ⟨ad, l[k], rfl, hx.cell h1, h2, h3⟩
set_option maxRecDepth 8000 in
set_option maxHeartbeats 102400000 in
theorem cuts_w (A : Option Addr) (n c : Nat) (O : List OV) (A2 : Option Addr) (m c2 : Nat) (cl : List Int) (w : World) (_ : True) (hS : Script w A n O) (hI : ArgI w A2 m c2 cl) (hm : c2 ≤ 1048576) :
    Calls Tryz.prog 6 #[.slice A n c, .slice A2 m c2] w fun e w' => e = .returned (.bool true) ∧ Ext w w' := by
  refine calls_hid fun G hG => ?_
  have hgg : Hid (∀ w', Ext w w' → G (.returned (.bool true)) w') := Lib.hid fun w' hx => hG.out _ _ ⟨rfl, hx⟩
  have hU := up_any w
  have hn1 := hS.n
  have hm1 : m ≤ 1048576 := Nat.le_trans hI.le hm
  have hcu := kcode_und
  have hcn := kcode_neq
  clear hG hm
  go_enter Tryz.func6, Tryz.ntmps6
  go_wp2_with (first
    | (go_at_call 7; (with_reducible refine hU.mono ?_); rintro e w1 ⟨rfl, hx1⟩)
    | (go_at_call 8; (with_reducible refine (fresh_any _).mono ?_); rintro e w3 ⟨d, s, rfl, hFr⟩; obtain ⟨S, bs3, cs3, hB3, hr3, hb3, hx3⟩ := fresh_bl2 hx1 hFr; have hL0 := LU.start hB3 hx3 hx1.size hb3 hr3 (Nat.zero_le _)))
  have hsz0 := hx1.size
  have hsz3 := hx3.size
  clear hFr hB3 hU
  go_loopg [7, 8, 9, 10] n (fun g sv rv av iv wr => ∃ (k q s rb : Nat) (S : DS) (K : KS) (bs cs : List Nat), k + g = n ∧ q ≤ m ∧ sv = .pointer (some ⟨s, 0, none⟩) ∧ rv = .pointer (some ⟨rb, 0, none⟩) ∧ av = .int .i64 q ∧ iv = .int .i64 k ∧ Hid (LU w wr w1.heap.size d s rb S K (totO (O.take k)) bs cs))
  case atStart => exact ⟨0, 0, s, w3.heap.size, S, emptyK, _, _, by omega, Nat.zero_le _, rfl, rfl, rfl, rfl, Lib.hid hL0⟩
  case round =>
    obtain ⟨k, q, s, rb, S, K, bs, cs, hk, hq, rfl, rfl, rfl, rfl, hL⟩ := hrel
    replace hL := hL.out
    clear hL0
    by_cases hlt : k < n
    · go_upto_region 10 with fail
      go_cut [50] from 37 to 182 (fun b wx => b = .bool (decide (q < m)) ∧ wx = wr)
      case first =>
        by_cases hqm : q < m
        · have q2 : decide (q < m) = true := decide_eq_true hqm
          go_wp2_with (go_at_call 30; (with_reducible refine (on_ok hL).mono ?_); rintro e wA ⟨rfl, rfl⟩)
          go_meet
          case rel => exact ⟨by rw [q2], rfl⟩
        · have q2 : decide (q < m) = false := decide_eq_false hqm
          have q1 : decide ((q : Int) < (m : Int)) = false := decide_eq_false (by omega)
          go_wp2_with fail
          go_meet
          case rel => exact ⟨by rw [q2], rfl⟩
      case rest =>
      obtain ⟨rfl, rfl⟩ := hcut
      go_upto_if 50 with fail
      go_cut [9] from 37 to 182 (fun av wx => ∃ (q : Nat) (S : DS) (bs cs : List Nat), q ≤ m ∧ av = .int .i64 q ∧ Hid (LU w wx w1.heap.size d s rb S K (totO (O.take k)) bs cs))
      case first =>
        by_cases hqm : q < m
        · have q2 : decide (q < m) = true := decide_eq_true hqm
          obtain ⟨ad2, z, hA2, zc, hz1, hz2⟩ := argI_at hI hL.v.x hqm
          subst hA2
          have hp12 := pickI_bd (c := z) (m := 12) (by omega)
          go_wp2_with (first
            | (go_at_call 9; (with_reducible refine (pick_any z 12 _ ⟨hz1, hz2⟩ (by omega)).mono ?_); rintro e wP ⟨rfl, rfl⟩)
            | (go_at_call 31; (with_reducible refine (cut_ok hL (by omega)).mono ?_); rintro e wB ⟨⟨v, rfl⟩, S2, bs2, hL2⟩))
          go_meet
          case rel => exact ⟨q + 1, S2, bs2, cs, hqm, (by simp), Lib.hid hL2⟩
        · have q2 : decide (q < m) = false := decide_eq_false hqm
          go_wp2_with fail
          go_meet
          case rel => exact ⟨q, S, bs, cs, hq, rfl, Lib.hid hL⟩
      case rest =>
      obtain ⟨q, S, bs, cs, hq, rfl, hL⟩ := hcut
      replace hL := hL.out
      have hkO : k < O.length := by rw [hS.len]; exact hlt
      obtain ⟨ad, rfl, p0, p1⟩ := (hS.ext hL.v.x).at hkO
      have ho := hS.at_ _ (List.getElem_mem hkO)
      have hTk := totO_take hkO
      have hTl := Nat.le_trans (totO_le O (k + 1)) hS.tot
      rw [hTk] at hTl
      replace hTk := Lib.hid hTk
      generalize O[k] = o at *
      have hPk := fun w1 => pick_any o.k 4 w1 ho.k (by omega)
      have hMy := fun w1 (hx : Ext w w1) => may_ok ho hx
      have hBx : Row (wc.alloc (.cells #[.int .i64 o.k, .slice o.A o.W.length o.c] 34)) wc.heap.size 34 [.int .i64 o.k, .slice o.A o.W.length o.c] := Row.alloc wc _ _
      have hxb := ext_alloc wc (.cells #[.int .i64 o.k, .slice o.A o.W.length o.c] 34)
      have hszw := hL.v.x.size
      have hnb : wc.heap.size ∉ bs ++ cs := fun hm => by have := (hL.v.ge _ hm).2; omega
      have hL1 := hL.ext hxb
      have hsz1 : (wc.alloc (.cells #[.int .i64 o.k, .slice o.A o.W.length o.c] 34)).heap.size = wc.heap.size + 1 := by simp
      obtain ⟨T, nT, cT, d0, d1, hA0⟩ := hL1.v.r.copy (fun x hx => (hL1.v.ge x hx).2)
      have hM := hL1.lm hA0
      rw [hsz1] at hM
      have hx2 := ext_alloc (wc.alloc (.cells #[.int .i64 o.k, .slice o.A o.W.length o.c] 34)) (.cells #[.slice T nT cT, .int .i64 K.n] 31)
      have g0 := hx2.cell (hBx.cell (i := 0) (by simp))
      have g1 := hx2.cell (hBx.cell (i := 1) (by simp))
      replace g0 : _ = some (Value.int .i64 o.k) := g0
      replace g1 : _ = some (Value.slice o.A o.W.length o.c) := g1
      replace hL := hL1.ext hx2
      have hKn := hL.live.bds.n
      have hKl := hL.live.bds.l
      have hKk := Lib.hid hL.live.bds.k
      have hKo := Lib.hid hL.live.bds.ok
      have hCb := hL.v.C
      replace hnb := Lib.hid hnb
      replace ho := Lib.hid ho
      have hC : Hid (totO (O.take k) + (18 + (o.P.flatMap encW).length) ≤ 6291456) := Lib.hid hTl
      clear hBx hxb hL1 hA0 hx2 hsz1
      by_cases hp : pickI o.k 4 = 3
      · rw [hp] at hPk
        clear hMy
        rcases lu_compact hL with h | h | h
        · have hCo := (h _).out _ rfl hL
          clear h
          as_aux_lemma =>
            go_wp2_with (first
              | (go_at_call 9; (with_reducible refine (hPk _).mono ?_); rintro e wP ⟨rfl, rfl⟩)
              | (go_at_call 15; (with_reducible refine hCo.mono ?_); rintro e wB ⟨rfl, bsB, csB, hL3, hsB⟩))
            go_roundg (n - (k + 1))
            case measure => omega
            case rel => exact ⟨k + 1, q, s, rb, S, K, bsB, csB, by omega, hq, rfl, rfl, rfl, (by simp), Lib.hid (by rw [hTk.out]; exact hL3.mono (Nat.le_add_right _ _) hTl)⟩
        · have hCo := (h _).out _ rfl hL
          clear h
          as_aux_lemma =>
            go_wp2_with (first
              | (go_at_call 9; (with_reducible refine (hPk _).mono ?_); rintro e wP ⟨rfl, rfl⟩)
              | (go_at_call 15; (with_reducible refine hCo.mono ?_); rintro e wB ⟨rfl, S2, bsB, csB, hL3, hsB⟩; have hM2 := hM.step hsB hL3.both.ge (hL3.v.room.trans hL.v.room.symm)))
            go_roundg (n - (k + 1))
            case measure => omega
            case rel => exact ⟨k + 1, q, s, wc.heap.size + 1, S2, K, bsB, csB, by omega, hq, rfl, rfl, rfl, (by simp), Lib.hid (by rw [hTk.out]; exact (hM2.lu hL3.both hL3.live hCb).mono (Nat.le_add_right _ _) hTl)⟩
        · have hCo := (h _).out _ rfl hL
          clear h
          as_aux_lemma =>
            go_upto_region 27 with (first
              | (go_at_call 9; (with_reducible refine (hPk _).mono ?_); rintro e wP ⟨rfl, rfl⟩)
              | (go_at_call 15; (with_reducible refine hCo.mono ?_); rintro e wB ⟨rfl, S2, bsB, csB, hDn, hr2, hdk, hsB, hge⟩; have hM2 := hM.step hsB hge hr2; have hLD := hM2.ld hdk hCb))
            have hK2k := hKk
            have hDn1 : Dn S2 K K (totO (O.take k) + o.sz) := hDn.mono (Nat.le_add_right _ _)
            have hLD1 := hLD.mono hTl
            clear hCo hM hM2 hsB hge hdk hDn hLD hL g0 g1 hPk hKn hKl
            generalize wc.heap.size + 1 = ra at *
            have hTl2 : totO (O.take k) + o.sz ≤ 134217728 := by omega
            generalize hC1 : totO (O.take k) + o.sz = C1 at *
            replace hTl := Lib.hid hTl
            replace hTl2 := Lib.hid hTl2
            replace hC1 := Lib.hid hC1
            clear hC hCb
            go_wp2_with fail
            go_loopg [9, 14] 9 (fun g av iv wq => ∃ (kk q : Nat) (S : DS) (bs : List Nat), kk + g = 9 ∧ kk ≤ 8 ∧ q ≤ m ∧ av = .int .i64 q ∧ iv = .int .i64 kk ∧ Hid (Dn S K K C1) ∧ Hid (LD w wq w1.heap.size d rb ra S K K C1 bs))
            case atStart => exact ⟨0, q, S2, bsB, by omega, by omega, hq, rfl, rfl, Lib.hid hDn1, Lib.hid hLD1⟩
            case round =>
              clear hDn1 hLD1
              obtain ⟨kk, q, S, bs, hkk, hk8, hq, rfl, rfl, hDn, hLD⟩ := hrel
              have t9 : decide ((kk : Int) < 9) = true := decide_eq_true (by omega)
              have t9' : (kk : Int) < 9 := by omega
              go_upto_if 104 with fail
              go_cut [9, 15] from 97 to 156 (fun av kv wx => ∃ (q : Nat) (z : Int), q ≤ m ∧ av = .int .i64 q ∧ kv = .int .i64 z ∧ -9223372036854775808 ≤ z ∧ z ≤ 9223372036854775807 ∧ wx = wr)
              case first =>
                by_cases hqm : q < m
                · have t1 : decide (q < m) = true := decide_eq_true hqm
                  have t2 : decide ((q : Int) < (m : Int)) = true := decide_eq_true (by omega)
                  obtain ⟨ad2, z, hA2, zc, hz1, hz2⟩ := argI_at hI hLD.out.v.x hqm
                  subst hA2
                  go_wp2_with fail
                  go_meet
                  case rel => exact ⟨q + 1, z, hqm, (by simp), rfl, hz1, hz2, rfl⟩
                · have t1 : decide (q < m) = false := decide_eq_false hqm
                  have t2 : decide ((q : Int) < (m : Int)) = false := decide_eq_false (by omega)
                  go_wp2_with fail
                  go_meet
                  case rel => exact ⟨q, 0, hq, rfl, rfl, by omega, by omega, rfl⟩
              case rest =>
              obtain ⟨q, z, hq, rfl, rfl, hz1, hz2, rfl⟩ := hcut
              obtain ⟨hb1, hr1, hup⟩ := hDn.out.pow z
              obtain ⟨Ks, hKs, hUp⟩ := up_either hup
              have hPw := ld_power hLD.out ⟨hz1, hz2⟩ hr1
              replace hKs := Lib.hid hKs
              clear hup
              go_upto_region 35 with (go_at_call 32; (with_reducible refine hPw.mono ?_); rintro e wQ ⟨rfl, bsQ, hLQ⟩)
              clear hPw
              generalize Dk.pow S z = S3 at *
              replace hb1 := Lib.hid hb1
              replace hr1 := Lib.hid hr1
              go_cut [129] from 97 to 156 (fun b wx => ∃ bb : Bool, b = .bool bb ∧ (bb = true → q < m ∧ kk < 8) ∧ wx = wQ)
              case first =>
                by_cases h8 : kk < 8
                · have t8 : decide ((kk : Int) < 8) = true := decide_eq_true (by omega)
                  by_cases hqm : q < m
                  · have t1 : decide (q < m) = true := decide_eq_true hqm
                    have t2 : decide ((q : Int) < (m : Int)) = true := decide_eq_true (by omega)
                    obtain ⟨ad2, z3, hA2, zc, hy1, hy2⟩ := argI_at hI hLQ.v.x hqm
                    subst hA2
                    go_wp2_with (go_at_call 9; (with_reducible refine (pick_any z3 3 _ ⟨hy1, hy2⟩ (by omega)).mono ?_); rintro e wP ⟨rfl, rfl⟩)
                    go_meet
                    case rel => exact ⟨_, rfl, fun _ => ⟨hqm, h8⟩, rfl⟩
                  · have t1 : decide (q < m) = false := decide_eq_false hqm
                    have t2 : decide ((q : Int) < (m : Int)) = false := decide_eq_false (by omega)
                    go_wp2_with fail
                    go_meet
                    case rel => exact ⟨false, rfl, by simp, rfl⟩
                · have t8 : decide ((kk : Int) < 8) = false := decide_eq_false (by omega)
                  go_wp2_with fail
                  go_meet
                  case rel => exact ⟨false, rfl, by simp, rfl⟩
              case rest =>
              obtain ⟨bb, rfl, hbb, rfl⟩ := hcut
              replace hbb := Lib.hid hbb
              go_upto_if 129 with fail
              go_cut [9] from 97 to 156 (fun av wx => av = .int .i64 q ∧ ∃ (S4 : DS) (bs4 : List Nat), Hid (Up S4 Ks C1) ∧ Hid (S4.bud ≠ -1 → kk < 8) ∧ Hid (LD w wx w1.heap.size d rb ra S4 K K C1 bs4))
              case first =>
                rcases bb with _ | _
                · go_wp2_with fail
                  go_meet
                  case rel => exact ⟨rfl, S3, bsQ, Lib.hid hUp, Lib.hid (fun h => absurd hb1.out h), Lib.hid hLQ⟩
                · obtain ⟨hqm, h8⟩ := hbb.out rfl
                  obtain ⟨ad2, z3, hA2, zc, hy1, hy2⟩ := argI_at hI hLQ.v.x hqm
                  subst hA2
                  have hy3 : -9223372036854775808 ≤ z3.tdiv 3 ∧ z3.tdiv 3 ≤ 9223372036854775807 := by
                    have h3 : (z3.tdiv 3).natAbs = z3.natAbs / 3 := Int.natAbs_tdiv z3 3
                    omega
                  have hp2 := pickI_bd (c := z3.tdiv 3) (m := 2) (by omega)
                  obtain ⟨hc1, hc2⟩ := hUp.cut (pickI (z3.tdiv 3) 2)
                  go_wp2_with (first
                    | (go_at_call 9; (with_reducible refine (pick_any (z3.tdiv 3) 2 _ hy3 (by omega)).mono ?_); rintro e wP ⟨rfl, rfl⟩)
                    | (go_at_call 31; (with_reducible refine (ld_cut hLQ (by omega) hc2).mono ?_); rintro e wT ⟨⟨v, rfl⟩, bs4, hL4⟩))
                  go_meet
                  case rel => exact ⟨rfl, _, bs4, Lib.hid hc1, Lib.hid (fun _ => h8), Lib.hid hL4⟩
              case rest =>
              obtain ⟨rfl, S4, bs4, hU4, hk4, hL4⟩ := hcut
              clear hUp hLQ hLD hDn
              rcases opens_two (d := d) hU4.out hTl2.out with hO | ⟨hbn, S5, hD5, hr5, hO⟩
              · have hOp := ld_open hL4.out hO
                clear hO
                go_upto_region 42 with (go_at_call 19; (with_reducible refine hOp.mono ?_); rintro e w6 ⟨s6, S6, bs6, cs6, rfl, hLF⟩)
                clear hOp
                obtain ⟨hp1, hp2, hp3⟩ := hLF.live.pow 0
                have hPw0 := ld_power (keep := 0) hLF.ld (by omega) hp2
                go_upto_region 49 with (first
                  | (go_at_call 32; (with_reducible refine hPw0.mono ?_); rintro e w7 ⟨rfl, bs7, hL7⟩; have hOp2 := ld_open hL7 (fun w bs h => kopen_live w1.heap.size d _ Ks C1 bs w h hp3.up hTl2.out hp1))
                  | (go_at_call 19; (with_reducible refine hOp2.mono ?_); rintro e w8 ⟨s8, S8, bs8, cs8, rfl, hLF8⟩)
                  | (go_at_call 24; (with_reducible refine (lf_stands_r hLF8 hKk.out).mono ?_); rintro e w9 ⟨⟨b1, rfl, hv1⟩, hx9⟩; have hLF8 := hLF8.ext hx9; replace hv1 := Lib.hid hv1)
                  | (go_at_call 24; (with_reducible refine (lf_stands_a hLF8 hK2k.out).mono ?_); rintro e w10 ⟨⟨b2, rfl, hv2⟩, hx10⟩; have hLF8 := hLF8.ext hx10; replace hv2 := Lib.hid hv2))
                rcases b2 with _ | _
                · rcases b1 with _ | _
                  · exfalso
                    rcases hKs.out with h | h
                    · exact absurd (hv1.out.2 h) (by simp)
                    · exact absurd (hv2.out.2 h) (by simp)
                  · go_wp2_with fail
                    go_roundg (n - (k + 1))
                    case measure => omega
                    case rel => exact ⟨k + 1, q, s8, rb, S8, K, bs8, cs8, by omega, hq, rfl, rfl, rfl, (by simp), Lib.hid (by rw [hTk.out]; exact hLF8.toR (hv1.out.1 (by simp)))⟩
                · rcases b1 with _ | _
                  all_goals
                    go_wp2_with fail
                    go_roundg (n - (k + 1))
                    case measure => omega
                    case rel => exact ⟨k + 1, q, s8, ra, S8, _, bs8, cs8, by omega, hq, rfl, rfl, rfl, (by simp), Lib.hid (by rw [hTk.out]; exact hLF8.toA (hv2.out.1 (by simp)))⟩
              · have h8 := hk4.out hbn
                have hOp := ld_openc hL4.out hr5 hO
                replace hbn := Lib.hid hbn
                clear hO
                go_wp2_with (go_at_call 19; (with_reducible refine hOp.mono ?_); rintro e w6 ⟨rfl, bs6, hL6⟩)
                go_roundg (9 - (kk + 1))
                case measure => omega
                case rel => exact ⟨kk + 1, q, S5, bs6, by omega, by omega, hq, rfl, (by simp), Lib.hid (dn_either hKs.out hD5), Lib.hid hL6⟩
      · have q0 : (pickI o.k 4 == 3) = false := by simpa using hp
        generalize pickI o.k 4 = pv at *
        replace hp := Lib.hid hp
        by_cases hm0 : may0 o.P = 0
        · rw [hm0] at hMy
          by_cases hW0 : o.W.length = 0
          · have q3 : decide ((o.W.length : Int) > 0) = false := decide_eq_false (by omega)
            replace hm0 := Lib.hid hm0
            replace hW0 := Lib.hid hW0
            as_aux_lemma =>
              go_wp2_with (first
                | (go_at_call 9; (with_reducible refine (hPk _).mono ?_); rintro e wP ⟨rfl, rfl⟩)
                | (go_at_call 12; (with_reducible refine (hMy _ hL.v.x).mono ?_); rintro e wM ⟨rfl, hxM⟩; have hL := hL.ext hxM; have hM := hM.ext hxM; have g1 := hxM.cell g1)
                | (go_at_call 10; (with_reducible refine (own_ok ho.out hL.v.x).mono ?_); rintro e wO ⟨T2, cT2, LO, rfl, hOw, hPw, hLl⟩; have hM := hM.ext hOw.E; have g1 := hOw.E.cell g1; have hApp := lu_apply_nil' (T := T2) (c := cT2) hW0.out hL hOw.E)
                | (go_at_call 11; (with_reducible refine hApp.mono ?_); rintro e wB ⟨rfl, bsB, csB, hBo, hsB⟩; have hM := hM.step (S' := S) hsB hBo.ge rfl; have g1 := hsB.k.cell g1 hnb.out))
              · exfalso
                have := hW0.out
                omega
              go_roundg (n - (k + 1))
              case measure => omega
              case rel => exact ⟨k + 1, q, s, wc.heap.size + 1, S, K, bsB, csB, by omega, hq, rfl, rfl, rfl, (by simp), Lib.hid (by rw [hTk.out]; exact (hM.lu hBo hL.live hCb).mono (Nat.le_add_right _ _) hTl)⟩
          · have q3 : decide ((o.W.length : Int) > 0) = true := decide_eq_true (by omega)
            have q4 : (0 : Int) < (o.W.length : Int) := by omega
            have h0 : o.P ≠ [] := fun e => hW0 (by have := congrArg List.length e; simpa [OV.P] using this)
            rcases lu_apply hL h0 hm0 ho.out.e hTl with ⟨S2, hlv, hr2, hAp⟩ | ⟨S2, hDn, hr2, hAp⟩
            · replace hlv := Lib.hid hlv
              replace hm0 := Lib.hid hm0
              replace hW0 := Lib.hid hW0
              as_aux_lemma =>
                go_wp2_with (first
                  | (go_at_call 9; (with_reducible refine (hPk _).mono ?_); rintro e wP ⟨rfl, rfl⟩)
                  | (go_at_call 12; (with_reducible refine (hMy _ hL.v.x).mono ?_); rintro e wM ⟨rfl, hxM⟩; have hL := hL.ext hxM; have hM := hM.ext hxM; have g1 := hxM.cell g1)
                  | (go_at_call 10; (with_reducible refine (own_ok ho.out hL.v.x).mono ?_); rintro e wO ⟨T2, cT2, LO, rfl, hOw, hPw, hLl⟩; have hM := hM.ext hOw.E; have g1 := hOw.E.cell g1; have hApp := hAp.out _ _ _ _ cT2 _ hL hOw hLl ho.out.n hPw)
                  | (go_at_call 11; (with_reducible refine hApp.mono ?_); rintro e wB ⟨rfl, bsB, csB, hBo, hsB⟩; have hM := hM.step hsB hBo.ge hr2; have g1 := hsB.k.cell g1 hnb.out)
                  | (go_at_call 14; (with_reducible refine (lm_do hM ho.out.W ho.out.n (by omega) (by omega)).mono ?_); rintro e wG ⟨rfl, hM3, hkG⟩; have hBo := hM.both hBo hkG; have hM := hM3))
                go_roundg (n - (k + 1))
                case measure => omega
                case rel => exact ⟨k + 1, q, s, wc.heap.size + 1, S2, _, bsB, csB, by omega, hq, rfl, rfl, rfl, (by simp), Lib.hid (by rw [hTk.out]; exact hM.lu hBo hlv.out hTl)⟩
            · have hK2k : Hid (∀ p ∈ (doB K o.P).l, p.k.length ≤ 1099511627776) := Lib.hid fun p hp => by have := ((hKo.out.doB hm0).len p hp).2.1; omega
              replace hm0 := Lib.hid hm0
              replace hW0 := Lib.hid hW0
              as_aux_lemma =>
                go_upto_region 27 with (first
                  | (go_at_call 9; (with_reducible refine (hPk _).mono ?_); rintro e wP ⟨rfl, rfl⟩)
                  | (go_at_call 12; (with_reducible refine (hMy _ hL.v.x).mono ?_); rintro e wM ⟨rfl, hxM⟩; have hL := hL.ext hxM; have hM := hM.ext hxM; have g1 := hxM.cell g1)
                  | (go_at_call 10; (with_reducible refine (own_ok ho.out hL.v.x).mono ?_); rintro e wO ⟨T2, cT2, LO, rfl, hOw, hPw, hLl⟩; have hM := hM.ext hOw.E; have g1 := hOw.E.cell g1; have hApp := hAp.out _ _ _ _ cT2 _ hL hOw hLl ho.out.n hPw)
                  | (go_at_call 11; (with_reducible refine hApp.mono ?_); rintro e wB ⟨rfl, bsB, csB, hBo, hsB⟩; have hM := hM.step hsB hBo.ge hr2; have g1 := hsB.k.cell g1 hnb.out)
                  | (go_at_call 14; (with_reducible refine (lm_do hM ho.out.W ho.out.n (by omega) (by omega)).mono ?_); rintro e wG ⟨rfl, hM3, hkG⟩; have hBo := hM.both hBo hkG; have hM := hM3))
                have hDn1 : Dn S2 K (doB K o.P) (totO (O.take k) + o.sz) := hDn
                have hLD1 := (hM.ld hBo.dsk hCb).mono hTl
                clear hApp hM hsB hDn hL g0 g1 hPk hKn hKl hBo hAp hMy hOw hPw hLl hM3 hkG
                generalize wc.heap.size + 1 = ra at *
                have hTl2 : totO (O.take k) + o.sz ≤ 134217728 := by omega
                generalize hC1 : totO (O.take k) + o.sz = C1 at *
                replace hTl := Lib.hid hTl
                replace hTl2 := Lib.hid hTl2
                replace hC1 := Lib.hid hC1
                clear hC hCb
                go_wp2_with fail
                go_loopg [9, 14] 9 (fun g av iv wq => ∃ (kk q : Nat) (S : DS) (bs : List Nat), kk + g = 9 ∧ kk ≤ 8 ∧ q ≤ m ∧ av = .int .i64 q ∧ iv = .int .i64 kk ∧ Hid (Dn S K (doB K o.P) C1) ∧ Hid (LD w wq w1.heap.size d rb ra S K (doB K o.P) C1 bs))
                case atStart => exact ⟨0, q, S2, bsB, by omega, by omega, hq, rfl, rfl, Lib.hid hDn1, Lib.hid hLD1⟩
                case round =>
                  clear hDn1 hLD1
                  obtain ⟨kk, q, S, bs, hkk, hk8, hq, rfl, rfl, hDn, hLD⟩ := hrel
                  have t9 : decide ((kk : Int) < 9) = true := decide_eq_true (by omega)
                  have t9' : (kk : Int) < 9 := by omega
                  go_upto_if 104 with fail
                  go_cut [9, 15] from 97 to 156 (fun av kv wx => ∃ (q : Nat) (z : Int), q ≤ m ∧ av = .int .i64 q ∧ kv = .int .i64 z ∧ -9223372036854775808 ≤ z ∧ z ≤ 9223372036854775807 ∧ wx = wr)
                  case first =>
                    by_cases hqm : q < m
                    · have t1 : decide (q < m) = true := decide_eq_true hqm
                      have t2 : decide ((q : Int) < (m : Int)) = true := decide_eq_true (by omega)
                      obtain ⟨ad2, z, hA2, zc, hz1, hz2⟩ := argI_at hI hLD.out.v.x hqm
                      subst hA2
                      go_wp2_with fail
                      go_meet
                      case rel => exact ⟨q + 1, z, hqm, (by simp), rfl, hz1, hz2, rfl⟩
                    · have t1 : decide (q < m) = false := decide_eq_false hqm
                      have t2 : decide ((q : Int) < (m : Int)) = false := decide_eq_false (by omega)
                      go_wp2_with fail
                      go_meet
                      case rel => exact ⟨q, 0, hq, rfl, rfl, by omega, by omega, rfl⟩
                  case rest =>
                  obtain ⟨q, z, hq, rfl, rfl, hz1, hz2, rfl⟩ := hcut
                  obtain ⟨hb1, hr1, hup⟩ := hDn.out.pow z
                  obtain ⟨Ks, hKs, hUp⟩ := up_either hup
                  have hPw := ld_power hLD.out ⟨hz1, hz2⟩ hr1
                  replace hKs := Lib.hid hKs
                  clear hup
                  go_upto_region 35 with (go_at_call 32; (with_reducible refine hPw.mono ?_); rintro e wQ ⟨rfl, bsQ, hLQ⟩)
                  clear hPw
                  generalize Dk.pow S z = S3 at *
                  replace hb1 := Lib.hid hb1
                  replace hr1 := Lib.hid hr1
                  go_cut [129] from 97 to 156 (fun b wx => ∃ bb : Bool, b = .bool bb ∧ (bb = true → q < m ∧ kk < 8) ∧ wx = wQ)
                  case first =>
                    by_cases h8 : kk < 8
                    · have t8 : decide ((kk : Int) < 8) = true := decide_eq_true (by omega)
                      by_cases hqm : q < m
                      · have t1 : decide (q < m) = true := decide_eq_true hqm
                        have t2 : decide ((q : Int) < (m : Int)) = true := decide_eq_true (by omega)
                        obtain ⟨ad2, z3, hA2, zc, hy1, hy2⟩ := argI_at hI hLQ.v.x hqm
                        subst hA2
                        go_wp2_with (go_at_call 9; (with_reducible refine (pick_any z3 3 _ ⟨hy1, hy2⟩ (by omega)).mono ?_); rintro e wP ⟨rfl, rfl⟩)
                        go_meet
                        case rel => exact ⟨_, rfl, fun _ => ⟨hqm, h8⟩, rfl⟩
                      · have t1 : decide (q < m) = false := decide_eq_false hqm
                        have t2 : decide ((q : Int) < (m : Int)) = false := decide_eq_false (by omega)
                        go_wp2_with fail
                        go_meet
                        case rel => exact ⟨false, rfl, by simp, rfl⟩
                    · have t8 : decide ((kk : Int) < 8) = false := decide_eq_false (by omega)
                      go_wp2_with fail
                      go_meet
                      case rel => exact ⟨false, rfl, by simp, rfl⟩
                  case rest =>
                  obtain ⟨bb, rfl, hbb, rfl⟩ := hcut
                  replace hbb := Lib.hid hbb
                  go_upto_if 129 with fail
                  go_cut [9] from 97 to 156 (fun av wx => av = .int .i64 q ∧ ∃ (S4 : DS) (bs4 : List Nat), Hid (Up S4 Ks C1) ∧ Hid (S4.bud ≠ -1 → kk < 8) ∧ Hid (LD w wx w1.heap.size d rb ra S4 K (doB K o.P) C1 bs4))
                  case first =>
                    rcases bb with _ | _
                    · go_wp2_with fail
                      go_meet
                      case rel => exact ⟨rfl, S3, bsQ, Lib.hid hUp, Lib.hid (fun h => absurd hb1.out h), Lib.hid hLQ⟩
                    · obtain ⟨hqm, h8⟩ := hbb.out rfl
                      obtain ⟨ad2, z3, hA2, zc, hy1, hy2⟩ := argI_at hI hLQ.v.x hqm
                      subst hA2
                      have hy3 : -9223372036854775808 ≤ z3.tdiv 3 ∧ z3.tdiv 3 ≤ 9223372036854775807 := by
                        have h3 : (z3.tdiv 3).natAbs = z3.natAbs / 3 := Int.natAbs_tdiv z3 3
                        omega
                      have hp2 := pickI_bd (c := z3.tdiv 3) (m := 2) (by omega)
                      obtain ⟨hc1, hc2⟩ := hUp.cut (pickI (z3.tdiv 3) 2)
                      go_wp2_with (first
                        | (go_at_call 9; (with_reducible refine (pick_any (z3.tdiv 3) 2 _ hy3 (by omega)).mono ?_); rintro e wP ⟨rfl, rfl⟩)
                        | (go_at_call 31; (with_reducible refine (ld_cut hLQ (by omega) hc2).mono ?_); rintro e wT ⟨⟨v, rfl⟩, bs4, hL4⟩))
                      go_meet
                      case rel => exact ⟨rfl, _, bs4, Lib.hid hc1, Lib.hid (fun _ => h8), Lib.hid hL4⟩
                  case rest =>
                  obtain ⟨rfl, S4, bs4, hU4, hk4, hL4⟩ := hcut
                  clear hUp hLQ hLD hDn
                  rcases opens_two (d := d) hU4.out hTl2.out with hO | ⟨hbn, S5, hD5, hr5, hO⟩
                  · have hOp := ld_open hL4.out hO
                    clear hO
                    go_upto_region 42 with (go_at_call 19; (with_reducible refine hOp.mono ?_); rintro e w6 ⟨s6, S6, bs6, cs6, rfl, hLF⟩)
                    clear hOp
                    obtain ⟨hp1, hp2, hp3⟩ := hLF.live.pow 0
                    have hPw0 := ld_power (keep := 0) hLF.ld (by omega) hp2
                    go_upto_region 49 with (first
                      | (go_at_call 32; (with_reducible refine hPw0.mono ?_); rintro e w7 ⟨rfl, bs7, hL7⟩; have hOp2 := ld_open hL7 (fun w bs h => kopen_live w1.heap.size d _ Ks C1 bs w h hp3.up hTl2.out hp1))
                      | (go_at_call 19; (with_reducible refine hOp2.mono ?_); rintro e w8 ⟨s8, S8, bs8, cs8, rfl, hLF8⟩)
                      | (go_at_call 24; (with_reducible refine (lf_stands_r hLF8 hKk.out).mono ?_); rintro e w9 ⟨⟨b1, rfl, hv1⟩, hx9⟩; have hLF8 := hLF8.ext hx9; replace hv1 := Lib.hid hv1)
                      | (go_at_call 24; (with_reducible refine (lf_stands_a hLF8 hK2k.out).mono ?_); rintro e w10 ⟨⟨b2, rfl, hv2⟩, hx10⟩; have hLF8 := hLF8.ext hx10; replace hv2 := Lib.hid hv2))
                    rcases b2 with _ | _
                    · rcases b1 with _ | _
                      · exfalso
                        rcases hKs.out with h | h
                        · exact absurd (hv1.out.2 h) (by simp)
                        · exact absurd (hv2.out.2 h) (by simp)
                      · go_wp2_with fail
                        go_roundg (n - (k + 1))
                        case measure => omega
                        case rel => exact ⟨k + 1, q, s8, rb, S8, K, bs8, cs8, by omega, hq, rfl, rfl, rfl, (by simp), Lib.hid (by rw [hTk.out]; exact hLF8.toR (hv1.out.1 (by simp)))⟩
                    · rcases b1 with _ | _
                      all_goals
                        go_wp2_with fail
                        go_roundg (n - (k + 1))
                        case measure => omega
                        case rel => exact ⟨k + 1, q, s8, ra, S8, _, bs8, cs8, by omega, hq, rfl, rfl, rfl, (by simp), Lib.hid (by rw [hTk.out]; exact hLF8.toA (hv2.out.1 (by simp)))⟩
                  · have h8 := hk4.out hbn
                    have hOp := ld_openc hL4.out hr5 hO
                    replace hbn := Lib.hid hbn
                    clear hO
                    go_wp2_with (go_at_call 19; (with_reducible refine hOp.mono ?_); rintro e w6 ⟨rfl, bs6, hL6⟩)
                    go_roundg (9 - (kk + 1))
                    case measure => omega
                    case rel => exact ⟨kk + 1, q, S5, bs6, by omega, by omega, hq, rfl, (by simp), Lib.hid (dn_either hKs.out hD5), Lib.hid hL6⟩
        · have q3 : (((may0 o.P : Nat) : Int) != 0) = true := bne_iff_ne.2 (by omega)
          generalize ((may0 o.P : Nat) : Int) = mz at *
          replace hm0 := Lib.hid hm0
          as_aux_lemma =>
            go_wp2_with (first
              | (go_at_call 9; (with_reducible refine (hPk _).mono ?_); rintro e wP ⟨rfl, rfl⟩)
              | (go_at_call 12; (with_reducible refine (hMy _ hL.v.x).mono ?_); rintro e wM ⟨rfl, hxM⟩; have hL := hL.ext hxM; have hM := hM.ext hxM; have g1 := hxM.cell g1))
            go_roundg (n - (k + 1))
            case measure => omega
            case rel => exact ⟨k + 1, q, s, rb, S, K, bs, cs, by omega, hq, rfl, rfl, rfl, (by simp), Lib.hid (by rw [hTk.out]; exact hL.mono (Nat.le_add_right _ _) hTl)⟩
    · obtain rfl : k = n := by omega
      as_aux_lemma =>
        go_wp2_with (first
          | (go_at_call 32; (with_reducible refine (lu_power hL).mono ?_); rintro e w4 ⟨rfl, bs4, hL4, hb4⟩; have hOp := lu_open hL4 hb4)
          | (go_at_call 19; (with_reducible refine hOp.mono ?_); rintro e w5 ⟨s5, S5, rfl, bs5, cs5, hL5⟩)
          | (go_at_call 24; (with_reducible refine (lu_stands hL5).mono ?_); rintro e w6 ⟨rfl, hx6⟩))
        exact hgg.out _ (hL5.v.x.trans hx6)
end Go.Proofs.YtjnbbfhoegeppaaGreatDoor
