/-
  Texts of the lemmas below the claim, put together: KvY KvZ KwA KwB KwC.
-/
import Derived.Test.YtjnbbfhoegeppaaGreatDoorMKvT
section
/-
  Walks of the answer's store: a batch is done.
-/
set_option linter.unusedSimpArgs false
set_option linter.unusedVariables false
namespace Go.Proofs.YtjnbbfhoegeppaaGreatDoor
open Go.RowKit Go.Cv Go.Cv.Dk Go.Cv.Wal Go.Cv.Kv
/-- Where the answer's batch stands. -/
def Rdo (w w2 : World) (r : Nat) (K : KS) (bs : List Nat) (n : Nat) : Prop := ∃ T c L, RtoAt w2 r K T c L ∧ RAp r T L bs ∧ Keep [r] w w2 ∧ L.length ≤ n
theorem rdo_next {w wr w1 w2 : World} {r n : Nat} {K' : KS} {T : Option Addr} {L : List PV} {bs : List Nat} {A : Option Addr} {v : List UInt8} {e : Ending} (hap : RAp r T L bs) (hLn : L.length ≤ n) (h1 : Ext wr w1)
    (hR : Rset w1 r K' L A v e w2) (hKp : Keep [r] w wr) (hAp : Ap A v bs) (hbs : ∀ x ∈ bs, x < w.heap.size) : e = .returned (.tuple #[]) ∧ Rdo w w2 r K' bs (n + 1) := by
  obtain ⟨e1, T', c', L', h2, h3, h4, h5, h6⟩ := hR
  refine ⟨e1, T', c', L', h2, ⟨hap.r, .inr fun y hy hm => ?_, fun x hx => ?_⟩, hKp.same ((Keep.of_ext (bs := [r]) h1).same h3), by omega⟩
  · have a1 := h4 y hy
    have a2 := hbs y hm
    have a3 := hKp.size
    have a4 := h1.size
    omega
  · rcases h5 x hx with h7 | ⟨h7, h8⟩
    · exact hap.v x h7
    · rw [h7, h8]; exact hAp
theorem WsAt.apr {w : World} {r c : Nat} {K : KS} {T : Option Addr} {L : List PV} {A : Option Addr} {W : List WV} (h : RtoAt w r K T c L) (hW : WsAt w A W) : WsAp A W [r] := by
  refine ⟨?_, fun x hx => ap_row h.row (by intro b; simp [bv]) (hW.ok x hx).rd⟩
  rcases hL : W with _ | ⟨x, l⟩
  · exact .inl rfl
  · have hr := hW.rd
    rw [hL] at hr
    obtain ⟨ad, rfl, h0⟩ := hr 0 (.string x.k) rfl
    refine .inr fun z hz hm => ?_
    simp [rowOf] at hz hm
    have h1 := cell_not_row h.row h0 (by simp)
    rw [add_block] at h1
    omega
set_option maxRecDepth 4000 in
set_option maxHeartbeats 6400000 in
theorem rdo_any (r : Nat) (K : KS) (bs : List Nat) (A : Option Addr) (c : Nat) (W : List WV) (w : World) (h : Rto w r K bs) (hbs : ∀ x ∈ bs, x < w.heap.size) (hW : WsAt w A W) (hap : ∀ x ∈ W, Ap x.A x.v bs) (hn : W.length ≤ 1048576) (hL : K.l.length ≤ 549755813888) (hK : K.n < 9223372036854775807) :
    Calls Tryz.prog 14 #[.pointer (some ⟨r, 0, none⟩), .slice A W.length c] w fun e w' => e = .returned (.tuple #[]) ∧ Rto w' r (doB K (W.map WV.pw)) bs ∧ Keep [r] w w' := by
  refine calls_hid fun G hG => ?_
  obtain ⟨T0, c0, L0, h0, ha0⟩ := h
  have hwa := WsAt.apr h0 hW
  have hL0 : L0.length ≤ 549755813888 := by rw [h0.ls] at hL; simpa using hL
  go_enter Tryz.func14, Tryz.ntmps14
  go_wp2
  go_loopw [4] (fun i wr => ∃ (k : Nat), k ≤ W.length ∧ i = .int .i64 k ∧ Hid (Rdo w wr r ⟨((W.take k).map WV.pw).foldl doW K.l, K.n⟩ bs (L0.length + k))) (fun i _ => W.length - (intOf i).toNat)
  case atStart => exact ⟨0, Nat.zero_le _, rfl, Lib.hid ⟨T0, c0, L0, by simpa using h0, ha0, Keep.refl _ _, Nat.le_refl _⟩⟩
  case round =>
    obtain ⟨k, hk, rfl, hD⟩ := hrel
    obtain ⟨T, c1, L, hS, hA, hKp, hLn⟩ := hD.out
    by_cases hk' : k < W.length
    · have hWr := hW.keep hwa hKp
      obtain ⟨ad, rfl, p0, p1, p2⟩ := hWr.at hk'
      have hx := hWr.ok _ (List.getElem_mem hk')
      have hxa := hap _ (List.getElem_mem hk')
      have hfold : ((W.take (k + 1)).map WV.pw).foldl doW K.l = doW (((W.take k).map WV.pw).foldl doW K.l) W[k].pw := by
        rw [List.take_succ_eq_append_getElem hk', List.map_append, List.foldl_append]
        rfl
      have hLb : L.length ≤ 1099511627776 := by omega
      generalize W[k] = x at *
      generalize ((W.take k).map WV.pw).foldl doW K.l = Lk at *
      rcases hd : x.d with _ | _
      · rw [hd] at p2
        have hst : doW Lk x.pw = setK Lk x.k.data.toList x.v := by
          show (if x.pw.d then _ else _) = _
          rw [if_neg (by show ¬ x.d = true; rw [hd]; simp)]
          rfl
        rw [hst] at hfold
        have hC : ∀ w1, Ext wr w1 → Calls Tryz.prog 40 #[.pointer (some ⟨r, 0, none⟩), .string x.k, .slice x.A x.v.length x.c] w1 fun e w2 => e = .returned (.tuple #[]) ∧ Rdo w w2 r ⟨setK Lk x.k.data.toList x.v, K.n⟩ bs (L0.length + k + 1) := fun w1 hw =>
          (rset_any r ⟨Lk, K.n⟩ T c1 L x.k x.A x.c x.v w1 (hS.ext hw) (hx.rd.ext hw) hLb).mono fun e w2 hR => rdo_next hA hLn hw hR hKp hxa hbs
        replace hfold := Lib.hid hfold
        clear hst hx hxa
        replace hS := Lib.hid hS
        go_wp2
        go_region_law (go_simp; go_at_call 40; ((with_reducible refine (hC _ (ext_drew _)).mono ?_); rintro e w2 ⟨rfl, hD2⟩))
        all_goals
          go_wp2
          go_roundw
          case rel => exact ⟨k + 1, hk', by go_num, Lib.hid (by rw [hfold.out]; exact hD2)⟩
          case measure => simp [intOf]; omega
      · rw [hd] at p2
        have hst : doW Lk x.pw = delK Lk x.k.data.toList := by
          show (if x.pw.d then _ else _) = _
          rw [if_pos (by show x.d = true; exact hd)]
          rfl
        rw [hst] at hfold
        have hC : Calls Tryz.prog 39 #[.pointer (some ⟨r, 0, none⟩), .string x.k] wr fun e w2 => e = .returned (.tuple #[]) ∧ Rdo w w2 r ⟨delK Lk x.k.data.toList, K.n⟩ bs (L0.length + k + 1) :=
          (rkdrop_any r ⟨Lk, K.n⟩ T c1 L x.k wr hS hLb).mono fun e w2 hR => rdo_next hA hLn (Ext.refl wr) hR hKp (.inl rfl) hbs
        replace hfold := Lib.hid hfold
        clear hst hx hxa
        replace hS := Lib.hid hS
        go_wp2_with (go_at_call 39; ((with_reducible refine hC.mono ?_); rintro e w2 ⟨rfl, hD2⟩))
        go_roundw
        case rel => exact ⟨k + 1, hk', by go_num, Lib.hid (by rw [hfold.out]; exact hD2)⟩
        case measure => simp [intOf]; omega
    · obtain rfl : k = W.length := by omega
      rw [List.take_length] at hS
      have q1 : wr.cell? ⟨r, 1, none⟩ = some (.int .i64 K.n) := hS.row.cell (i := 1) (by simp)
      have f1 := hS.row.fro 1
      have hk3 := Keep.setCell wr ⟨r, 1, none⟩ (.int .i64 ((K.n + 1 : Nat) : Int))
      have hap3 := hS.apr
      have hgg := hG.out (.returned (.tuple #[])) _ ⟨rfl, ⟨T, c1, L, (⟨hS.row.set 1 _, by
        rcases hap3.2.1 with h1 | h1
        · subst h1; exact Rd.nil_
        · exact hS.rd.keep hk3 fun ad e => h1 _ (by simp [rowOf, e]), fun x hx => (hap3.2.2 x hx).keep (hS.val x hx) hk3 fun _ h => h, hS.ls, hS.ris⟩ : RtoAt _ r (doB K (W.map WV.pw)) T c1 L), hA⟩, hKp.same hk3⟩
      rw [show (((doB K (W.map WV.pw)).n : Nat) : Int) = (K.n : Int) + 1 from by show ((K.n + 1 : Nat) : Int) = _; omega] at hgg
      replace hgg := Lib.hid hgg
      clear hG hS hD hL hap3 hk3
      generalize K.n = kn at *
      go_wp2
      go_end0
      exact hgg.out
end Go.Proofs.YtjnbbfhoegeppaaGreatDoor
end
section
/-
  Walks of the answer's bytes: number, Record, Snap.
-/
set_option linter.unusedSimpArgs false
set_option linter.unusedVariables false
namespace Go.Proofs.YtjnbbfhoegeppaaGreatDoor
open Go.RowKit Go.Cv Go.Cv.Dk Go.Cv.Wal Go.Cv.Kv
/-- Fresh bytes are given back. -/
def FreB (w : World) (n : Nat) (l : List UInt8) (e : Ending) (w' : World) : Prop :=
  ∃ A c, e = .returned (.slice A n c) ∧ w'.ownsRow w.heap.size 5 1 (.slice A n c) n (l.map bv) ∧ Ext w w'
theorem u8_step (x y v k : Nat) (hx : x = v / 256 ^ k) (hy : y = x % 256) : u8 ((y : Nat) : Int) = UInt8.ofNat (v / 256 ^ k) := by
  rw [u8_of_nat, hy, ← hx]
  apply UInt8.toNat_inj.1
  simp
set_option maxHeartbeats 1600000 in
theorem rnumber_any (v m : Nat) (w : World) (hv : v < 9223372036854775808) (hm : m ≤ 8) :
    Calls Tryz.prog 46 #[.int .i64 v, .int .i64 m] w (FreB w m (leN m v)) := by
  refine calls_hid fun G hG => ?_
  have hg : ∀ e w', FreB w m (leN m v) e w' → G e w' := fun e w' h1 => hG.out _ _ h1
  replace hg := Lib.hid hg
  clear hG
  go_enter Tryz.func46, Tryz.ntmps46
  go_wp2
  go_loopw [0, 5, 6] (fun p t i wr => ∃ (k x : Nat) (A' : Option Addr) (c' : Nat), k ≤ m ∧ i = .int .i64 k ∧ p = .int .i64 x ∧ Hid (x = v / 256 ^ k) ∧ x < 9223372036854775808 ∧ t = .slice A' k c' ∧ wr.ownsRow w.heap.size 5 1 (.slice A' k c') k ((leN k v).map bv) ∧ Hid (Ext w wr)) (fun _ _ i _ => m - (intOf i).toNat)
  case atStart => exact ⟨0, v, none, 0, Nat.zero_le _, rfl, rfl, Lib.hid (by simp), hv, rfl, World.ownsRow_nil _ _ _ _, Lib.hid (Ext.refl w)⟩
  case round =>
    obtain ⟨k, x, A', c', hk, rfl, rfl, hx, hxb, rfl, ho', hE⟩ := hrel
    by_cases hlt : k < m
    · have hk8 : k < 8 := by omega
      obtain ⟨y, hy⟩ : ∃ y, y = x % 256 := ⟨_, rfl⟩
      obtain ⟨z, hz⟩ : ∃ z, z = x / 256 := ⟨_, rfl⟩
      have t1 : ((x : Int).tmod 256) = (y : Int) := by rw [Int.tmod_eq_emod_of_nonneg (by omega)]; omega
      have t2 : ((x : Int).tdiv 256) = (z : Int) := by rw [Int.tdiv_eq_ediv_of_nonneg (by omega)]; omega
      have hzb : z < 9223372036854775808 := by omega
      have hu := Lib.hid (u8_step x y v k hx.out hy)
      have hzk := Lib.hid (show z = v / 256 ^ (k + 1) by rw [hz, hx.out, Nat.div_div_eq_div_mul, Nat.pow_succ])
      have hbs := hE.out.size
      clear hy hz
      go_wp2_with (at_builtin; (refine wpList_appS rfl (.tmp 12) (.tmp 16) 43 5 rfl u8rowD w.heap.size A' k c' (leN k v) rfl (own_ext ho' (ext_alloc _ _)) (some ⟨_, 0, none⟩) 1 1 [Cv.u8 (y : Int)] rfl rfl (rd_new_one _ _ _) (by omega) (Nat.le_trans hbs (by simp)) ?_; rw [hu.out, ← leN_succ]; intro A3 c3 w3 ho3 hS3; have hE3 : Ext w w3 := ext_keep (hE.out.trans (ext_alloc _ _)) hS3.k (base_le ho')))
      go_roundw
      case rel => exact ⟨k + 1, z, A3, c3, hlt, by go_num, rfl, hzk, hzb, rfl, ho3, Lib.hid hE3⟩
      case measure => simp [intOf]; omega
    · obtain rfl : k = m := by omega
      go_wp2
      exact hg.out _ _ ⟨A', c', rfl, ho', hE.out⟩
section
variable (v : Nat) (w : World) (hv : v < 9223372036854775808)
include hv
theorem rnumber8 : Calls Tryz.prog 46 #[.int .i64 v, .int .i64 8] w (FreB w 8 (leN 8 v)) := rnumber_any v 8 w hv (by omega)
theorem rnumber4 : Calls Tryz.prog 46 #[.int .i64 v, .int .i64 4] w (FreB w 4 (leN 4 v)) := rnumber_any v 4 w hv (by omega)
theorem rnumber2 : Calls Tryz.prog 46 #[.int .i64 v, .int .i64 2] w (FreB w 2 (leN 2 v)) := rnumber_any v 2 w hv (by omega)
end
set_option maxRecDepth 4000 in
set_option maxHeartbeats 6400000 in
theorem rrecord_any (A : Option Addr) (c : Nat) (L : List WV) (n : Nat) (w : World) (h : WsAt w A L) (hn : n < 9223372036854775808) (hL : L.length ≤ 1048576) (hb : (recB n (L.map WV.pw)).length ≤ 70368744177664) :
    Calls Tryz.prog 29 #[.int .i64 n, .slice A L.length c] w (RetBytes w (recB n (L.map WV.pw)).length (recB n (L.map WV.pw))) := by
  refine calls_hid fun G hG => ?_
  have hN1 := rnumber8 n w hn
  go_enter Tryz.func29, Tryz.ntmps29
  go_wp2_with (first
    | (go_at_call 46; (with_reducible refine hN1.mono ?_); rintro e' w1 ⟨A1, c1, rfl, ho1, hE1⟩; have hN2 := rnumber2 L.length w1 (by omega))
    | (go_at_call 46; (with_reducible refine hN2.mono ?_); rintro e' w2 ⟨A2, c2, rfl, ho2, hE2⟩)
    | (at_builtin; refine wpList_appS rfl (.tmp 9) (.tmp 12) 43 5 rfl u8rowD w.heap.size A1 8 c1 (leN 8 n) rfl (own_ext ho1 hE2) A2 2 c2 (leN 2 L.length) rfl (leN_len _ _) (rd_own ho2) (by omega) (Nat.le_trans hE1.size hE2.size) ?_; intro A3 c3 w3 ho3 hS3; have hE3 : Ext w w3 := ext_keep (hE1.trans hE2) hS3.k (base_le ho1)))
  have hgo : ∀ A' c' q wr, wr.ownsRow w.heap.size 5 1 (.slice A' q c') q ((recB n (L.map WV.pw)).map bv) → Ext w wr → G (.returned (.slice A' q c')) wr := fun A' c' q wr h1 h2 => by
    have hq := own_q h1
    subst hq
    exact hG.out _ _ (RetBytes.mk_ h2 h1)
  replace hgo := Lib.hid hgo
  clear hN1 hN2 hS3 hG ho1 ho2 hE1 hE2
  go_loopw [5, 6] (fun b i wr => ∃ (k : Nat) (A' : Option Addr) (c' q : Nat), k ≤ L.length ∧ i = .int .i64 k ∧ b = .slice A' q c' ∧ wr.ownsRow w.heap.size 5 1 (.slice A' q c') q ((leN 8 n ++ (leN 2 L.length ++ ((L.take k).map WV.pw).flatMap encW)).map bv) ∧ Hid (Ext w wr)) (fun _ i _ => L.length - (intOf i).toNat)
  case atStart => exact ⟨0, A3, c3, 10, Nat.zero_le _, rfl, rfl, by simpa using ho3, Lib.hid hE3⟩
  case round =>
    obtain ⟨k, A', c', q, hk, rfl, rfl, ho, hE⟩ := hrel
    by_cases hlt : k < L.length
    · obtain ⟨ad, rfl, p0, p1, p2⟩ := (h.ext hE.out).at hlt
      have hx := (h.ok _ (List.getElem_mem hlt)).ext hE.out
      have hnext := encs_snoc hlt
      have hrdx : ∀ w', Ext w w' → Rd w' L[k].A (L[k].v.map bv) := fun w' hw => (h.ok _ (List.getElem_mem hlt)).rd.ext hw
      have hpt : Hid (∀ wr, Ext w wr → wr.cell? (ad.add (k * 3)) = some (.string L[k].k) ∧ wr.cell? ⟨(ad.add (k * 3)).block, (ad.add (k * 3)).off + 1, none⟩ = some (.slice L[k].A L[k].v.length L[k].c) ∧ wr.cell? ⟨(ad.add (k * 3)).block, (ad.add (k * 3)).off + 2, none⟩ = some (.bool L[k].d)) := Lib.hid fun wr hx => by
        obtain ⟨ad', e, h1, h2, h3⟩ := (h.ext hx).at hlt
        injection e with e
        subst e
        exact ⟨h1, h2, h3⟩
      have hlen : q ≤ 70368744177664 := by
        rw [← own_q ho]
        refine Nat.le_trans ?_ hb
        unfold recB
        simp only [List.length_append, leN_len, List.length_map]
        have : ((L.take k).map WV.pw).flatMap encW <+: (L.map WV.pw).flatMap encW := by
          refine ⟨((L.drop k).map WV.pw).flatMap encW, ?_⟩
          rw [← List.flatMap_append, ← List.map_append, List.take_append_drop]
        have := this.length_le
        omega
      generalize L[k] = x at *
      have hkb := hx.kb
      have hvb := hx.vb
      have hbs := hE.out.size
      have hA' := base_le ho
      clear p0 p1 p2
      obtain ⟨p0, p1, p2⟩ := hpt.out _ hE.out
      rcases hd : x.d with _ | _
      · rw [hd] at p2
        have hnx : leN 8 n ++ (leN 2 L.length ++ ((L.take (k + 1)).map WV.pw).flatMap encW) = leN 8 n ++ (leN 2 L.length ++ ((L.take k).map WV.pw).flatMap encW) ++ [Cv.u8 (x.k.size : Int)] ++ x.k.data.toList ++ [0] ++ leN 4 x.v.length ++ x.v := by
          rw [hnext, u8_of_nat]
          simp [encW, WV.pw, hd]
        generalize leN 8 n ++ (leN 2 L.length ++ ((L.take k).map WV.pw).flatMap encW) = xs at *
        replace hnx := Lib.hid hnx
        replace hd := Lib.hid hd
        clear hnext
        go_wp2_with (first
          | (at_builtin; refine wpList_appS rfl (.tmp 20) (.tmp 28) 43 5 rfl u8rowD w.heap.size A' q c' xs rfl (own_ext ho (ext_alloc _ _)) (some ⟨_, 0, none⟩) 1 1 [Cv.u8 (x.k.size : Int)] rfl rfl (rd_new_one _ _ _) (by omega) (hE.out.trans (ext_alloc _ _)).size ?_; intro A3 c3 w3 ho3 hS3; have hE3 : Ext w w3 := ext_keep (hE.out.trans (ext_alloc _ _)) hS3.k (base_le ho); obtain ⟨m0, _, _⟩ := hpt.out _ hE3)
          | (at_builtin; refine wpList_appstr rfl (.tmp 30) (.tmp 35) 43 9 5 rfl Tryz.underlying43 Tryz.underlying9 u8info w.heap.size A3 (q + 1) c3 _ rfl ho3 x.k rfl (by omega) hE3.size ?_; intro A4 c4 w4 ho4 hS4; have hE4 : Ext w w4 := ext_keep hE3 hS4.k (base_le ho3); obtain ⟨_, _, m2⟩ := hpt.out _ hE4; rw [hd.out] at m2)
          | (at_builtin; refine wpList_appS rfl (.tmp 45) (.tmp 46) 43 5 rfl u8rowD w.heap.size A4 (q + 1 + x.k.size) c4 _ rfl (own_ext ho4 (ext_alloc _ _)) (some ⟨_, 0, none⟩) 1 1 [0] rfl rfl (rd_b _ 0 0 _ rfl) (by omega) (hE4.trans (ext_alloc _ _)).size ?_; intro A5 c5 w5 ho5 hS5; have hE5 : Ext w w5 := ext_keep (hE4.trans (ext_alloc _ _)) hS5.k (base_le ho4); obtain ⟨_, m1, _⟩ := hpt.out _ hE5; have hN5 := rnumber4 x.v.length w5 (by omega))
          | (go_at_call 46; (with_reducible refine hN5.mono ?_); rintro e' w6 ⟨A6, c6, rfl, ho6, hE6⟩; have ho5' := own_ext ho5 hE6)
          | (at_builtin; refine wpList_appS rfl (.tmp 48) (.tmp 55) 43 5 rfl u8rowD w.heap.size A5 (q + 1 + x.k.size + 1) c5 _ rfl ho5' A6 4 c6 (leN 4 x.v.length) rfl (leN_len _ _) (rd_own ho6) (by omega) (hE5.trans hE6).size ?_; intro A7 c7 w7 ho7 hS7; have hE7 : Ext w w7 := ext_keep (hE5.trans hE6) hS7.k (base_le ho5); obtain ⟨_, n1, _⟩ := hpt.out _ hE7)
          | (at_builtin; refine wpList_appS rfl (.tmp 57) (.tmp 62) 43 5 rfl u8rowD w.heap.size A7 (q + 1 + x.k.size + 1 + 4) c7 _ rfl ho7 x.A x.v.length x.c x.v rfl rfl (hrdx _ hE7) (by omega) hE7.size ?_; intro A8 c8 w8 ho8 hS8; have hE8 : Ext w w8 := ext_keep hE7 hS8.k (base_le ho7)))
        go_roundw
        case rel => exact ⟨k + 1, A8, c8, _, hlt, by go_num, rfl, by rw [hnx.out]; exact ho8, Lib.hid hE8⟩
        case measure => simp [intOf]; omega
      · rw [hd] at p2
        have hnx : leN 8 n ++ (leN 2 L.length ++ ((L.take (k + 1)).map WV.pw).flatMap encW) = leN 8 n ++ (leN 2 L.length ++ ((L.take k).map WV.pw).flatMap encW) ++ [Cv.u8 (x.k.size : Int)] ++ x.k.data.toList ++ [1] := by
          rw [hnext, u8_of_nat]
          simp [encW, WV.pw, hd]
        generalize leN 8 n ++ (leN 2 L.length ++ ((L.take k).map WV.pw).flatMap encW) = xs at *
        replace hnx := Lib.hid hnx
        replace hd := Lib.hid hd
        clear hnext
        go_wp2_with (first
          | (at_builtin; refine wpList_appS rfl (.tmp 20) (.tmp 28) 43 5 rfl u8rowD w.heap.size A' q c' xs rfl (own_ext ho (ext_alloc _ _)) (some ⟨_, 0, none⟩) 1 1 [Cv.u8 (x.k.size : Int)] rfl rfl (rd_new_one _ _ _) (by omega) (hE.out.trans (ext_alloc _ _)).size ?_; intro A3 c3 w3 ho3 hS3; have hE3 : Ext w w3 := ext_keep (hE.out.trans (ext_alloc _ _)) hS3.k (base_le ho); obtain ⟨m0, _, _⟩ := hpt.out _ hE3)
          | (at_builtin; refine wpList_appstr rfl (.tmp 30) (.tmp 35) 43 9 5 rfl Tryz.underlying43 Tryz.underlying9 u8info w.heap.size A3 (q + 1) c3 _ rfl ho3 x.k rfl (by omega) hE3.size ?_; intro A4 c4 w4 ho4 hS4; have hE4 : Ext w w4 := ext_keep hE3 hS4.k (base_le ho3); obtain ⟨_, _, m2⟩ := hpt.out _ hE4; rw [hd.out] at m2)
          | (at_builtin; refine wpList_appS rfl (.tmp 42) (.tmp 43) 43 5 rfl u8rowD w.heap.size A4 (q + 1 + x.k.size) c4 _ rfl (own_ext ho4 (ext_alloc _ _)) (some ⟨_, 0, none⟩) 1 1 [1] rfl rfl (rd_b _ 1 1 _ rfl) (by omega) (hE4.trans (ext_alloc _ _)).size ?_; intro A5 c5 w5 ho5 hS5; have hE5 : Ext w w5 := ext_keep (hE4.trans (ext_alloc _ _)) hS5.k (base_le ho4)))
        go_roundw
        case rel => exact ⟨k + 1, A5, c5, _, hlt, by go_num, rfl, by rw [hnx.out]; exact ho5, Lib.hid hE5⟩
        case measure => simp [intOf]; omega
    · obtain rfl : k = L.length := by omega
      rw [List.take_length] at ho
      go_wp2
      exact hgo.out _ _ _ _ (by unfold recB; rw [List.length_map]; exact ho) hE.out
end Go.Proofs.YtjnbbfhoegeppaaGreatDoor
end
section
/-
  Walks of the answer's bytes: Snap.
-/
set_option linter.unusedSimpArgs false
set_option linter.unusedVariables false
namespace Go.Proofs.YtjnbbfhoegeppaaGreatDoor
open Go.RowKit Go.Cv Go.Cv.Dk Go.Cv.Wal Go.Cv.Kv
/-- Pairs whose keys and values are short. -/
def Shrt (l : List PP) : Prop := ∀ p ∈ l, p.k.length ≤ 255 ∧ p.v.length ≤ 262144
set_option maxRecDepth 4000 in
set_option maxHeartbeats 6400000 in
theorem rsnap_any (r : Nat) (K : KS) (bs : List Nat) (w : World) (h : Rto w r K bs) (hn : K.n < 9223372036854775808) (hL : K.l.length ≤ 1099511627776) (hs : Shrt K.l) (hb : (snpB K).length ≤ 70368744177664) :
    Calls Tryz.prog 16 #[.pointer (some ⟨r, 0, none⟩)] w (RetBytes w (snpB K).length (snpB K)) := by
  refine calls_hid fun G hG => ?_
  obtain ⟨T, c, L, h, _⟩ := h
  have hl := h.ls
  obtain ⟨N, hN⟩ : ∃ N, N = L.length := ⟨_, rfl⟩
  have hNL := Lib.hid hN
  have hLl : K.l.length = N := by rw [hl, List.length_map, hN]
  have hNb : N ≤ 1099511627776 := by omega
  have hcells : Hid (∀ wr, Ext w wr → wr.cell? ⟨r, 0, none⟩ = some (.slice T N c) ∧ wr.cell? ⟨r, 1, none⟩ = some (.int .i64 K.n)) := Lib.hid fun wr hx => ⟨by rw [hN]; exact (h.ext hx).row.cell (i := 0) (by simp), (h.ext hx).row.cell (i := 1) (by simp)⟩
  clear hN
  have hN1 := rnumber8 K.n w hn
  obtain ⟨k0, k1⟩ := hcells.out w (Ext.refl w)
  go_enter Tryz.func16, Tryz.ntmps16
  go_wp2_with (first
    | (go_at_call 46; (with_reducible refine hN1.mono ?_); rintro e' w1 ⟨A1, c1, rfl, ho1, hE1⟩; obtain ⟨c0', _⟩ := hcells.out w1 hE1; have hN2 := rnumber4 N w1 (by omega))
    | (go_at_call 46; (with_reducible refine hN2.mono ?_); rintro e' w2 ⟨A2, c2, rfl, ho2, hE2⟩)
    | (at_builtin; refine wpList_appS rfl (.tmp 10) (.tmp 16) 43 5 rfl u8rowD w.heap.size A1 8 c1 (leN 8 K.n) rfl (own_ext ho1 hE2) A2 4 c2 (leN 4 N) rfl (leN_len _ _) (rd_own ho2) (by omega) (Nat.le_trans hE1.size hE2.size) ?_; intro A3 c3 w3 ho3 hS3; have hE3 : Ext w w3 := ext_keep (hE1.trans hE2) hS3.k (base_le ho1)))
  have hsn : snpB K = leN 8 K.n ++ (leN 4 N ++ K.l.flatMap encP) := by unfold snpB; rw [hLl]
  have hbl : (K.l.flatMap encP).length ≤ 70368744177664 := by
    refine Nat.le_trans ?_ hb
    rw [hsn]
    simp
    omega
  have hgo : ∀ A' c' q wr, wr.ownsRow w.heap.size 5 1 (.slice A' q c') q ((leN 8 K.n ++ (leN 4 N ++ K.l.flatMap encP)).map bv) → Ext w wr → G (.returned (.slice A' q c')) wr := fun A' c' q wr h1 h2 => by
    rw [← hsn] at h1
    have hq := own_q h1
    subst hq
    exact hG.out _ _ (RetBytes.mk_ h2 h1)
  replace hgo := Lib.hid hgo
  replace hLl := Lib.hid hLl
  clear hN1 hN2 hS3 hG ho1 ho2 hE1 hE2 hsn k0 k1 c0'
  go_loopw [3, 4] (fun b i wr => ∃ (k : Nat) (A' : Option Addr) (c' q : Nat), k ≤ N ∧ i = .int .i64 k ∧ b = .slice A' q c' ∧ wr.ownsRow w.heap.size 5 1 (.slice A' q c') q ((leN 8 K.n ++ (leN 4 N ++ (K.l.take k).flatMap encP)).map bv) ∧ Hid (Ext w wr)) (fun _ i _ => N - (intOf i).toNat)
  case atStart => exact ⟨0, A3, c3, 12, Nat.zero_le _, rfl, rfl, by simpa using ho3, Lib.hid hE3⟩
  case round =>
    obtain ⟨k, A', c', q, hk, rfl, rfl, ho, hE⟩ := hrel
    obtain ⟨r0, _⟩ := hcells.out wr hE.out
    by_cases hlt : k < N
    · have hkL : k < L.length := by rw [← hNL.out]; exact hlt
      have hkK : k < K.l.length := by rw [hLl.out]; exact hlt
      have hnext := snp_snoc hkK
      have hpk : K.l[k] = (L[k]).pp := by
        have h1 : K.l[k]? = some (L[k]).pp := by rw [hl, List.getElem?_map, List.getElem?_eq_getElem hkL]; rfl
        rw [List.getElem?_eq_getElem hkK] at h1
        injection h1
      have hsh := hs _ (List.getElem_mem hkK)
      rw [hpk] at hnext hsh
      obtain ⟨ad, rfl, p0, p1⟩ := (h.ext hE.out).at hkL
      have hrdx : ∀ w', Ext w w' → Rd w' L[k].A (L[k].v.map bv) := fun w' hw => (h.ext hw).val _ (List.getElem_mem hkL)
      have hpt : Hid (∀ wr, Ext w wr → wr.cell? ⟨r, 0, none⟩ = some (.slice (some ad) N c) ∧ wr.cell? (ad.add (k * 2)) = some (.string L[k].k) ∧ wr.cell? ⟨(ad.add (k * 2)).block, (ad.add (k * 2)).off + 1, none⟩ = some (.slice L[k].A L[k].v.length L[k].c)) := Lib.hid fun wr hx => by
        obtain ⟨ad', e, h1, h2⟩ := (h.ext hx).at hkL
        injection e with e
        subst e
        exact ⟨(hcells.out wr hx).1, h1, h2⟩
      have hlen : q ≤ 70368744178000 := by
        rw [← own_q ho]
        have := take_flat_le (l := K.l) k
        simp only [List.length_append, leN_len]
        omega
      clear hpk
      generalize L[k] = x at *
      have hkb : x.k.size ≤ 255 := by
        have h1 := hsh.1
        rw [show x.pp.k.length = x.k.size from Array.length_toList] at h1
        exact h1
      have hvb : x.v.length ≤ 262144 := hsh.2
      have hbs := hE.out.size
      clear hsh
      have hnx : leN 8 K.n ++ (leN 4 N ++ (K.l.take (k + 1)).flatMap encP) = leN 8 K.n ++ (leN 4 N ++ (K.l.take k).flatMap encP) ++ [Cv.u8 (x.k.size : Int)] ++ x.k.data.toList ++ leN 4 x.v.length ++ x.v := by
        rw [hnext, u8_of_nat]
        simp [encP, PV.pp]
      generalize leN 8 K.n ++ (leN 4 N ++ (K.l.take k).flatMap encP) = xs at *
      replace hnx := Lib.hid hnx
      clear hnext
      go_wp2_with (first
        | (at_builtin; refine wpList_appS rfl (.tmp 27) (.tmp 38) 43 5 rfl u8rowD w.heap.size A' q c' xs rfl (own_ext ho (ext_alloc _ _)) (some ⟨_, 0, none⟩) 1 1 [Cv.u8 (x.k.size : Int)] rfl rfl (rd_new_one _ _ _) (by omega) (hE.out.trans (ext_alloc _ _)).size ?_; intro A3 c3 w3 ho3 hS3; have hE3 : Ext w w3 := ext_keep (hE.out.trans (ext_alloc _ _)) hS3.k (base_le ho); obtain ⟨z3, m0, _⟩ := hpt.out _ hE3)
        | (at_builtin; refine wpList_appstr rfl (.tmp 40) (.tmp 48) 43 9 5 rfl Tryz.underlying43 Tryz.underlying9 u8info w.heap.size A3 (q + 1) c3 _ rfl ho3 x.k rfl (by omega) hE3.size ?_; intro A4 c4 w4 ho4 hS4; have hE4 : Ext w w4 := ext_keep hE3 hS4.k (base_le ho3); obtain ⟨z4, _, m1⟩ := hpt.out _ hE4; have hN5 := rnumber4 x.v.length w4 (by omega))
        | (go_at_call 46; (with_reducible refine hN5.mono ?_); rintro e' w6 ⟨A6, c6, rfl, ho6, hE6⟩; have ho4' := own_ext ho4 hE6)
        | (at_builtin; refine wpList_appS rfl (.tmp 50) (.tmp 60) 43 5 rfl u8rowD w.heap.size A4 (q + 1 + x.k.size) c4 _ rfl ho4' A6 4 c6 (leN 4 x.v.length) rfl (leN_len _ _) (rd_own ho6) (by omega) (hE4.trans hE6).size ?_; intro A7 c7 w7 ho7 hS7; have hE7 : Ext w w7 := ext_keep (hE4.trans hE6) hS7.k (base_le ho4); obtain ⟨z7, _, n1⟩ := hpt.out _ hE7)
        | (at_builtin; refine wpList_appS rfl (.tmp 62) (.tmp 70) 43 5 rfl u8rowD w.heap.size A7 (q + 1 + x.k.size + 4) c7 _ rfl ho7 x.A x.v.length x.c x.v rfl rfl (hrdx _ hE7) (by omega) hE7.size ?_; intro A8 c8 w8 ho8 hS8; have hE8 : Ext w w8 := ext_keep hE7 hS8.k (base_le ho7)))
      go_roundw
      case rel => exact ⟨k + 1, A8, c8, _, hlt, by go_num, rfl, by rw [hnx.out]; exact ho8, Lib.hid hE8⟩
      case measure => simp [intOf]; omega
    · have e1 : K.l.take k = K.l := List.take_of_length_le (by rw [hLl.out]; omega)
      rw [e1] at ho
      go_wp2
      exact hgo.out _ _ _ _ ho hE.out
end Go.Proofs.YtjnbbfhoegeppaaGreatDoor
end
section
/-
  Walks of the answer's store: what is told (Get, Keys); may a batch be done.
-/
set_option linter.unusedSimpArgs false
set_option linter.unusedVariables false
namespace Go.Proofs.YtjnbbfhoegeppaaGreatDoor
open Go.RowKit Go.Cv Go.Cv.Dk Go.Cv.Wal Go.Cv.Kv
theorem find_at {l : List PP} {x : List UInt8} {j : Nat} (hj : j < l.length) (h0 : (l.take j).find? (fun p => p.k == x) = none) (h1 : l[j].k = x) : fndK l x = some l[j] := by
  have e : l = l.take j ++ l[j] :: l.drop (j + 1) := by
    rw [← List.drop_eq_getElem_cons hj, List.take_append_drop]
  have h2 := congrArg (fun z => z.find? (fun p => p.k == x)) e
  rw [List.find?_append, h0] at h2
  unfold fndK
  rw [h2, Option.none_or, List.find?_cons_of_pos (by rw [h1]; simp)]
theorem find_next {l : List PP} {x : List UInt8} {j : Nat} (hj : j < l.length) (h0 : (l.take j).find? (fun p => p.k == x) = none) (h1 : ¬ l[j].k = x) : (l.take (j + 1)).find? (fun p => p.k == x) = none := by
  rw [List.take_succ_eq_append_getElem hj, List.find?_append, h0]
  simp [h1]
set_option maxRecDepth 4000 in
set_option maxHeartbeats 3200000 in
theorem rget_any (r : Nat) (K : KS) (bs : List Nat) (k : ByteArray) (w : World) (h : Rto w r K bs) (hL : K.l.length ≤ 1099511627776) :
    Calls Tryz.prog 21 #[.pointer (some ⟨r, 0, none⟩), .string k] w fun e w' => (∃ A n c, e = .returned (.tuple #[.slice A n c, .bool (fndK K.l k.data.toList).isSome]) ∧ n = (getK K.l k.data.toList).length ∧ Rd w' A ((getK K.l k.data.toList).map bv) ∧ Ap A (getK K.l k.data.toList) bs) ∧ w = w' := by
  refine calls_hid fun G hG => ?_
  obtain ⟨T, c, L, h, hap⟩ := h
  obtain ⟨N, hN⟩ : ∃ N, N = L.length := ⟨_, rfl⟩
  have hNL := Lib.hid hN
  have hLl : K.l.length = N := by rw [h.ls, List.length_map, hN]
  have hNb : N ≤ 1099511627776 := by omega
  have c0 : w.cell? ⟨r, 0, none⟩ = some (.slice T N c) := by rw [hN]; exact h.row.cell (i := 0) (by simp)
  replace hLl := Lib.hid hLl
  clear hN
  go_enter Tryz.func21, Tryz.ntmps21
  go_wp2
  go_loopw [6] (fun i wr => ∃ k' : Nat, k' ≤ N ∧ i = .int .i64 k' ∧ Hid ((K.l.take k').find? (fun p => p.k == k.data.toList) = none) ∧ wr = w) (fun i _ => N - (intOf i).toNat)
  case atStart => exact ⟨0, Nat.zero_le _, rfl, Lib.hid rfl, rfl⟩
  case round =>
    obtain ⟨j, hj, rfl, hf, rfl⟩ := hrel
    by_cases hlt : j < N
    · have hjL : j < L.length := by rw [← hNL.out]; exact hlt
      have hjK : j < K.l.length := by rw [hLl.out]; exact hlt
      obtain ⟨ad, rfl, p0, p1⟩ := h.at hjL
      have hpk : K.l[j] = (L[j]).pp := by
        have h1 : K.l[j]? = some (L[j]).pp := by rw [h.ls, List.getElem?_map, List.getElem?_eq_getElem hjL]; rfl
        rw [List.getElem?_eq_getElem hjK] at h1
        injection h1
      have hv := h.val _ (List.getElem_mem hjL)
      have hva := hap.v _ (List.getElem_mem hjL)
      have hne : K.l[j].k = k.data.toList ↔ (L[j].k.toList == k.toList) = true := by
        rw [hpk, Lib.toList_data, Lib.toList_data]
        exact ⟨fun e => by rw [show L[j].k.data.toList = k.data.toList from e]; simp, fun e => beq_iff_eq.1 e⟩
      have hF := find_at hjK hf.out
      have hX := find_next hjK hf.out
      rw [hpk] at hne hF hX
      generalize L[j] = x at *
      clear hpk
      rcases hb : (x.k.toList == k.toList) with _ | _
      · have hX := Lib.hid (hX fun e => by rw [hne.1 e] at hb; cases hb)
        clear hne hF
        go_wp2
        go_roundw
        case rel => exact ⟨j + 1, hlt, by go_num, hX, trivial⟩
        case measure => simp [intOf]; omega
      · have hF := hF (hne.2 hb)
        have hg : getK K.l k.data.toList = x.v := by unfold getK; rw [hF]; rfl
        have hgg := hG.out (.returned (.tuple #[.slice x.A x.v.length x.c, .bool true])) wr ⟨⟨x.A, x.v.length, x.c, by rw [hF]; rfl, by rw [hg], by rw [hg]; exact hv, by rw [hg]; exact hva⟩, rfl⟩
        replace hgg := Lib.hid hgg
        clear hne hX hF hg
        go_wp2
        exact hgg.out
    · obtain rfl : j = N := by omega
      have e1 : K.l.take j = K.l := List.take_of_length_le (by rw [hLl.out]; omega)
      have hF : fndK K.l k.data.toList = none := by have := hf.out; rwa [e1] at this
      have hg : getK K.l k.data.toList = [] := by unfold getK; rw [hF]; rfl
      have hgg := hG.out (.returned (.tuple #[.slice none 0 0, .bool false])) wr ⟨⟨none, 0, 0, by rw [hF]; rfl, by rw [hg]; rfl, by rw [hg]; exact Rd.nil_, by rw [hg]; exact .inl rfl⟩, rfl⟩
      replace hgg := Lib.hid hgg
      clear hF hg
      go_wp2
      exact hgg.out
theorem keysK_next {l : List PP} {pf : List UInt8} {j : Nat} (hj : j < l.length) : keysK (l.take (j + 1)) pf = keysK (l.take j) pf ++ (if Lib.hasPrefix l[j].k pf then [l[j].k] else []) := by
  unfold keysK
  rw [List.take_succ_eq_append_getElem hj, List.map_append, List.filter_append]
  congr 1
  by_cases hp : Lib.hasPrefix l[j].k pf = true
  · simp [hp]
  · simp [hp]
set_option maxRecDepth 4000 in
set_option maxHeartbeats 3200000 in
theorem rkeys_any (r : Nat) (K : KS) (bs : List Nat) (pf : ByteArray) (w : World) (h : Rto w r K bs) (hL : K.l.length ≤ 1099511627776) :
    Calls Tryz.prog 23 #[.pointer (some ⟨r, 0, none⟩), .string pf] w fun e w' => ∃ A c, e = .returned (.slice A (keysK K.l pf.data.toList).length c) ∧ w'.ownsRow w.heap.size 9 1 (.slice A (keysK K.l pf.data.toList).length c) (keysK K.l pf.data.toList).length ((keysK K.l pf.data.toList).map fun k => .string ⟨k.toArray⟩) ∧ Ext w w' := by
  refine calls_hid fun G hG => ?_
  obtain ⟨T, c, L, h, hap⟩ := h
  obtain ⟨N, hN⟩ : ∃ N, N = L.length := ⟨_, rfl⟩
  have hNL := Lib.hid hN
  have hLl : K.l.length = N := by rw [h.ls, List.length_map, hN]
  have hNb : N ≤ 1099511627776 := by omega
  have hcells : ∀ wr, Ext w wr → wr.cell? ⟨r, 0, none⟩ = some (.slice T N c) := fun wr hx => by rw [hN]; exact (h.ext hx).row.cell (i := 0) (by simp)
  replace hcells := Lib.hid hcells
  replace hLl := Lib.hid hLl
  have hgo : ∀ A' c' q wr, wr.ownsRow w.heap.size 9 1 (.slice A' q c') q ((keysK K.l pf.data.toList).map fun k => .string ⟨k.toArray⟩) → Ext w wr → G (.returned (.slice A' q c')) wr := fun A' c' q wr h1 h2 => by
    have hq : (keysK K.l pf.data.toList).length = q := by have := h1.1; simpa using this
    subst hq
    exact hG.out _ _ ⟨A', c', rfl, h1, h2⟩
  replace hgo := Lib.hid hgo
  clear hN hG
  go_enter Tryz.func23, Tryz.ntmps23
  go_wp2
  go_loopw [5, 6] (fun o i wr => ∃ (j q c' : Nat) (T' : Option Addr), j ≤ N ∧ i = .int .i64 j ∧ o = .slice T' q c' ∧ wr.ownsRow w.heap.size 9 1 (.slice T' q c') q ((keysK (K.l.take j) pf.data.toList).map fun k => .string ⟨k.toArray⟩) ∧ Hid (Ext w wr) ∧ q ≤ j) (fun _ i _ => N - (intOf i).toNat)
  case atStart => exact ⟨0, 0, 0, none, Nat.zero_le _, rfl, rfl, by simpa [keysK] using World.ownsRow_nil _ _ _ _, Lib.hid (Ext.refl w), Nat.le_refl _⟩
  case round =>
    obtain ⟨j, q, c', T', hj, rfl, rfl, ho, hE, hqj⟩ := hrel
    have m0 := hcells.out wr hE.out
    by_cases hlt : j < N
    · have hjL : j < L.length := by rw [← hNL.out]; exact hlt
      have hjK : j < K.l.length := by rw [hLl.out]; exact hlt
      obtain ⟨ad, rfl, p0, p1⟩ := (h.ext hE.out).at hjL
      have hpk : K.l[j] = (L[j]).pp := by
        have h1 : K.l[j]? = some (L[j]).pp := by rw [h.ls, List.getElem?_map, List.getElem?_eq_getElem hjL]; rfl
        rw [List.getElem?_eq_getElem hjK] at h1
        injection h1
      have hnx := keysK_next (pf := pf.data.toList) hjK
      rw [hpk] at hnx
      generalize L[j] = x at *
      clear hpk
      rw [show x.pp.k = x.k.data.toList from rfl, ← Lib.hasPrefix_raw] at hnx
      by_cases hsz : pf.size ≤ x.k.size
      · rcases hb : ((x.k.extract 0 pf.size).toList == pf.toList) with _ | _
        · rw [hb] at hnx
          replace hnx := Lib.hid hnx
          go_wp2
          go_roundw
          case rel => exact ⟨j + 1, q, c', T', hlt, by go_num, rfl, by rw [hnx.out]; simpa using ho, hE, by omega⟩
          case measure => simp [intOf]; omega
        · rw [hb] at hnx
          simp only [decide_eq_true hsz, Bool.and_self, if_true] at hnx
          replace hnx := Lib.hid hnx
          go_wp2_with (at_builtin; (refine wpList_appfam rfl (.tmp 38) (.tmp 40) 57 9 1 16 rfl stringRow w.heap.size _ _ _ _ rfl (own_ext ho (ext_alloc _ _)) ⟨_, 0, none⟩ 1 1 [.string x.k] rfl rfl (rd_list _ [.string x.k] _) (by intro u hu; rw [List.mem_singleton.1 hu]; rfl) (by unfold maxLen; omega) (by omega) (by have := hE.out.size; simp; omega) ?_; intro T5 c5 w5 ho5 hk5 hn5; have hE5 : Ext w w5 := ext_keep (hE.out.trans (ext_alloc _ _)) hk5 (base_le ho)))
          go_roundw
          case rel => exact ⟨j + 1, q + 1, c5, T5, hlt, by go_num, rfl, by rw [hnx.out]; simpa using ho5, Lib.hid hE5, by omega⟩
          case measure => simp [intOf]; omega
      · rw [decide_eq_false hsz, Bool.false_and] at hnx
        replace hnx := Lib.hid hnx
        go_wp2
        go_roundw
        case rel => exact ⟨j + 1, q, c', T', hlt, by go_num, rfl, by rw [hnx.out]; simpa using ho, hE, by omega⟩
        case measure => simp [intOf]; omega
    · obtain rfl : j = N := by omega
      have e1 : K.l.take j = K.l := List.take_of_length_le (by rw [hLl.out]; omega)
      rw [e1] at ho
      go_wp2
      exact hgo.out _ _ _ _ ho hE.out
end Go.Proofs.YtjnbbfhoegeppaaGreatDoor
end
section
/-
  Walks of the answer's store: may a batch be done.
-/
set_option linter.unusedSimpArgs false
set_option linter.unusedVariables false
namespace Go.Proofs.YtjnbbfhoegeppaaGreatDoor
open Go.RowKit Go.Cv Go.Cv.Dk Go.Cv.Wal Go.Cv.Kv
theorem WsAt.rmay1 {w : World} {A : Option Addr} {W : List WV} (hW : WsAt w A W) {k : Nat} (hlt : k < W.length) : (W.map WV.pw)[k]'(by simpa using hlt) = W[k].pw ∧ badK W[k].pw = decide (W[k].k.size < 1 ∨ 255 < W[k].k.size) ∧ badV W[k].pw = (!W[k].d && decide (262144 < W[k].v.length)) := by
  refine ⟨by simp, ?_, rfl⟩
  unfold badK
  rw [show W[k].pw.k.length = W[k].k.size from Array.length_toList]
set_option maxRecDepth 4000 in
set_option maxHeartbeats 3200000 in
theorem rmay_any (A : Option Addr) (c : Nat) (W : List WV) (w : World) (hW : WsAt w A W) (hn : W.length ≤ 1048576) (hb : (recB 1 (W.map WV.pw)).length ≤ 2097152) :
    Calls Tryz.prog 12 #[.slice A W.length c] w fun e w' => e = .returned (.int .i64 (may0 (W.map WV.pw) : Nat)) ∧ Ext w w' := by
  refine calls_hid fun G hG => ?_
  by_cases h1 : 4096 < W.length
  · have hg := hG.out _ w ⟨rfl, Ext.refl w⟩
    have e : may0 (W.map WV.pw) = 1 := by unfold may0; rw [if_pos (by simpa using h1)]
    rw [e] at hg
    have q : decide ((W.length : Int) > 4096) = true := decide_eq_true (by omega)
    clear hG hW
    go_enter Tryz.func12, Tryz.ntmps12
    go_wp2
    exact hg
  · have q : decide ((W.length : Int) > 4096) = false := decide_eq_false (by omega)
    have hG1 : (W.map WV.pw).any badK = true → G (.returned (.int .i64 1)) w := fun hb => hG.out _ _ ⟨by
      have e : may0 (W.map WV.pw) = 1 := by unfold may0; rw [if_neg (by simpa using h1), if_pos hb]
      rw [e]; rfl, Ext.refl w⟩
    have hG2 : (W.map WV.pw).any badK = false → (W.map WV.pw).any badV = true → G (.returned (.int .i64 2)) w := fun hb hv => hG.out _ _ ⟨by
      have e : may0 (W.map WV.pw) = 2 := by unfold may0; rw [if_neg (by simpa using h1), if_neg (by show ¬ (W.map WV.pw).any badK = true; rw [hb]; simp), if_pos hv]
      rw [e]; rfl, Ext.refl w⟩
    have hG0 : ∀ w', Ext w w' → (W.map WV.pw).any badK = false → (W.map WV.pw).any badV = false → G (.returned (.int .i64 0)) w' := fun w' hx hb hv => hG.out _ _ ⟨by
      have e : may0 (W.map WV.pw) = 0 := by unfold may0; rw [if_neg (by simpa using h1), if_neg (by show ¬ (W.map WV.pw).any badK = true; rw [hb]; simp), if_neg (by show ¬ (W.map WV.pw).any badV = true; rw [hv]; simp)]
      rw [e]; rfl, hx⟩
    replace hG1 := Lib.hid hG1
    replace hG2 := Lib.hid hG2
    replace hG0 := Lib.hid hG0
    have hR : Calls Tryz.prog 29 #[.int .i64 1, .slice A W.length c] w (RetBytes w (recB 1 (W.map WV.pw)).length (recB 1 (W.map WV.pw))) := rrecord_any A c W 1 w hW (by omega) hn (by omega)
    generalize recB 1 (W.map WV.pw) = rb at *
    clear hG
    go_enter Tryz.func12, Tryz.ntmps12
    go_wp2
    go_loopw [3] (fun i wr => ∃ k : Nat, k ≤ W.length ∧ i = .int .i64 k ∧ Hid (((W.map WV.pw).take k).any badK = false) ∧ wr = w) (fun i _ => W.length - (intOf i).toNat)
    case atStart => exact ⟨0, Nat.zero_le _, rfl, Lib.hid rfl, rfl⟩
    case round =>
      obtain ⟨k, hk, rfl, hany, rfl⟩ := hrel
      by_cases hlt : k < W.length
      · obtain ⟨ad, rfl, p0, p1, p2⟩ := hW.at hlt
        obtain ⟨hgk, hbk, _⟩ := hW.rmay1 hlt
        have hlm : k < (W.map WV.pw).length := by simpa using hlt
        have hN := any_take_succ hlm hany.out (p := badK)
        have hY := any_at hlm (p := badK)
        have hkb := ((hW.ok _ (List.getElem_mem hlt)).kb)
        rw [hgk, hbk] at hN hY
        clear hgk hbk
        generalize W[k] = x at *
        by_cases h0 : x.k.size < 1 ∨ 255 < x.k.size
        · have hgg := Lib.hid (hG1.out (hY (decide_eq_true h0)))
          clear hN hY
          rcases Nat.lt_or_ge x.k.size 1 with h0' | h0'
          · have q1 : decide ((x.k.size : Int) < 1) = true := decide_eq_true (by omega)
            replace h0 := Lib.hid h0
            go_wp2
            exact hgg.out
          · have q1 : decide ((x.k.size : Int) < 1) = false := decide_eq_false (by omega)
            have q2 : decide ((x.k.size : Int) > 255) = true := decide_eq_true (by omega)
            replace h0 := Lib.hid h0
            go_wp2
            exact hgg.out
        · have hN := Lib.hid (hN (decide_eq_false h0))
          have q1 : decide ((x.k.size : Int) < 1) = false := decide_eq_false (by omega)
          have q2 : decide ((x.k.size : Int) > 255) = false := decide_eq_false (by omega)
          replace h0 := Lib.hid h0
          clear hY
          go_wp2
          go_roundw
          case rel => exact ⟨k + 1, hlt, by go_num, hN, trivial⟩
          case measure => simp [intOf]; omega
      · obtain rfl : k = W.length := by omega
        have hk0 : (W.map WV.pw).any badK = false := by have := hany.out; rwa [List.take_of_length_le (by simp)] at this
        replace hk0 := Lib.hid hk0
        go_wp2
        go_loopw [4] (fun i w2 => ∃ k : Nat, k ≤ W.length ∧ i = .int .i64 k ∧ Hid (((W.map WV.pw).take k).any badV = false) ∧ w2 = wr) (fun i _ => W.length - (intOf i).toNat)
        case atStart => exact ⟨0, Nat.zero_le _, rfl, Lib.hid rfl, rfl⟩
        case round =>
          obtain ⟨k, hk, rfl, hany, rfl⟩ := hrel
          by_cases hlt : k < W.length
          · obtain ⟨ad, rfl, p0, p1, p2⟩ := hW.at hlt
            obtain ⟨hgk, _, hbk⟩ := hW.rmay1 hlt
            have hlm : k < (W.map WV.pw).length := by simpa using hlt
            have hN := any_take_succ hlm hany.out (p := badV)
            have hY := any_at hlm (p := badV)
            rw [hgk, hbk] at hN hY
            clear hgk hbk
            generalize W[k] = x at *
            rcases hd : x.d with _ | _
            · rw [hd] at hN hY p2
              by_cases h0 : 262144 < x.v.length
              · have hgg := Lib.hid (hG2.out hk0.out (hY (by simpa using h0)))
                have q1 : decide ((x.v.length : Int) > 262144) = true := decide_eq_true (by omega)
                clear hN hY
                replace hd := Lib.hid hd
                go_wp2
                exact hgg.out
              · have hN := Lib.hid (hN (by simpa using h0))
                have q1 : decide ((x.v.length : Int) > 262144) = false := decide_eq_false (by omega)
                clear hY
                replace hd := Lib.hid hd
                go_wp2
                go_roundw
                case rel => exact ⟨k + 1, hlt, by go_num, hN, trivial⟩
                case measure => simp [intOf]; omega
            · rw [hd] at hN p2
              have hN := Lib.hid (hN rfl)
              clear hY
              replace hd := Lib.hid hd
              go_wp2
              go_roundw
              case rel => exact ⟨k + 1, hlt, by go_num, hN, trivial⟩
              case measure => simp [intOf]; omega
          · obtain rfl : k = W.length := by omega
            have hv0 : (W.map WV.pw).any badV = false := by have := hany.out; rwa [List.take_of_length_le (by simp)] at this
            have hgg : Hid (∀ w', Ext wr w' → G (.returned (.int .i64 0)) w') := Lib.hid fun w' hx => hG0.out w' hx hk0.out hv0
            have q3 : decide ((rb.length : Int) > 2097152) = false := decide_eq_false (by omega)
            clear hv0
            go_wp2_with (go_at_call 29; (with_reducible refine hR.mono ?_); rintro e w3 ⟨A3, c3, rfl, hx3, _, _, _, _⟩)
            exact hgg.out _ hx3
end Go.Proofs.YtjnbbfhoegeppaaGreatDoor
end
