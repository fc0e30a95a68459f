/-
  The walk of the statement WalCuts.
-/
import Derived.Test.YtjnbbfhoegeppaaDoorWoW
set_option linter.unusedSimpArgs false
set_option linter.unusedVariables false
namespace Go.Cv.Wal
open Go Go.Cv.Dk
/-- A disk whose power is on, with no such file, or one that tells these records. -/
structure Fin_ (S : DS) (x : List UInt8) (R : List (List UInt8)) : Prop where
  off : S.off = false
  f : (R = [] ∧ S.l = []) ∨ ∃ C u, Lone S x C ∧ Scans C R u ∧ C.length ≤ 35184372088832
theorem kp_fin {S : DS} {x : List UInt8} {M : List (List UInt8)} {k : Nat} (h : Kp S x (flat (M.take k))) (hM : ∀ r ∈ M, r.length ≤ 2097152) (hb : (flat (M.take k)).length ≤ 35184372088832) (keep : Int) : Fin_ (Dk.pow S keep) x (M.take k) := by
  obtain ⟨h1, h2, h3⟩ := h.pow keep
  refine ⟨h1.off, ?_⟩
  rcases h1.lone h2 with ⟨_, h4, h5⟩ | h4
  · refine .inl ⟨?_, h4⟩
    have h6 := flat_bound (M.take k)
    rw [h5] at h6
    simp only [List.length_nil] at h6
    exact List.length_eq_zero_iff.1 (by omega)
  · exact .inr ⟨_, _, h4, scans_all fun r hr => hM r (List.mem_of_mem_take hr), hb⟩
theorem cut_fin {S : DS} {x : List UInt8} {M : List (List UInt8)} {k : Nat} (hk : k < M.length) (h : Cutd S x (flat (M.take k)) M[k]) (hM : ∀ r ∈ M, r.length ≤ 2097152) (hb : (flat (M.take k) ++ frame M[k]).length ≤ 35184372088832) (keep : Int) :
    ∃ j, (j = k ∨ j = k + 1) ∧ j ≤ M.length ∧ Fin_ (Dk.pow S keep) x (M.take j) := by
  obtain ⟨c, h1, h2, h3, _⟩ := h.pow keep
  obtain ⟨j, u, hj, hjl, hs⟩ := cut_scans hk (fun r hr => hM r (List.mem_of_mem_take hr)) h1 h2
  exact ⟨j, hj, hjl, h3.off, .inr ⟨_, u, h3, hs, by rw [List.length_take]; omega⟩⟩
end Go.Cv.Wal
namespace Go.Proofs.YtjnbbfhoegeppaaDoor
open Go.RowKit Go.Cv Go.Cv.Dk Go.Cv.Wal
theorem run_neq_iface_int {P : Program} (w : World) {ti tn : TypeId} {ms : Array (String × TypeId)} {k : IntKind} (a b : Int)
    (hi : P.underlying ti = some (.interface ms)) (hn : P.underlying tn = some (.int k)) (hinfo : (P.info? tn).map (·.comparable) = some true) :
    (binOp .neq ti (.iface tn (.int k a)) (.iface tn (.int k b))).run P w = .ok (.bool (!(a == b))) w := by
  rcases hf : P.info? tn with _ | i
  · rw [hf] at hinfo; cases hinfo
  · rw [hf] at hinfo
    simp only [binOp]
    simp [Op.equal, Op.maxDepth, run_equalIn_iface_int w 9998 a b hi hn hf (by simpa using hinfo)]
@[go_sem] theorem neq_err (a b : Int) (w : World) : (binOp .neq 27 (.iface 34 (.int .i64 a)) (.iface 34 (.int .i64 b))).run Tryd.prog w = .ok (.bool (!(a == b))) w :=
  run_neq_iface_int w a b Tryd.underlying27 Tryd.underlying34 codeinfo
theorem lcut_same {S : DS} {x : List UInt8} {u : Nat} : lcut wrap64 S x u = lcut wrap64 S x u := rfl
/-- What an opening tells of a disk that stands so. -/
theorem open_fin (B d : Nat) (S : DS) (bs : List Nat) (s : ByteArray) (R : List (List UInt8)) (j : Nat) (w : World) (hj : R.length = j) (h : Dsk w B d S bs) (hf : Hid (Fin_ S s.data.toList R ∧ s.size ≤ 281474976710656 ∧ nameOk s.data.toList = true)) :
    Calls Tryd.prog 8 #[.pointer (some ⟨d, 0, none⟩), .string s] w fun e w' => ∃ g A c, e = .returned (.tuple #[.pointer (some ⟨g, 0, none⟩), .slice A j c, .nilIface]) ∧ ∃ vs, Rd w' A vs ∧ AllB Any_ w' vs R ∧ ∃ cs, Stp bs cs w w' := by
  obtain ⟨⟨ho, hf⟩, hs, hn⟩ := hf.out
  rcases hf with ⟨rfl, hl⟩ | ⟨C, u, hl, hsc, hb⟩
  · have h9 : fnd S s.data.toList = 9 := by unfold fnd has Dk.get; rw [ho, hl]; rfl
    refine (open_none B d S bs s w h hs h9 hn).mono fun e w' x => ?_
    obtain ⟨rfl, _, hx⟩ := x
    refine ⟨_, none, 0, by rw [← hj]; rfl, [], Rd.nil_, trivial, bs, Stp.of_ext hx⟩
  · obtain ⟨z, _, _⟩ := hl.lcut (bump := wrap64) u hsc.le
    refine (open_ok B d S bs s w R u h hs hl.fnd (by rw [hl.cont]; exact hsc) (by rw [hl.cont]; exact hb) z).mono fun e w' x => ?_
    obtain ⟨g, A, c, cs, rfl, _, _, _, hr, _, hS⟩ := x.out
    obtain ⟨vs, h1, h2, _⟩ := hr.rd
    exact ⟨g, A, c, by rw [hj], vs, h1, h2, cs, hS⟩
set_option maxRecDepth 4000 in
set_option maxHeartbeats 1600000 in
theorem cuts_neg (A2 : Option Addr) (n2 c2 : Nat) (st kp : Int) (w : World) (h : st < 0) :
    Calls Tryd.prog 4 #[.slice A2 n2 c2, .int .i64 st, .int .i64 kp] w fun e w' => e = .returned (.bool true) ∧ Ext w w' := by
  have hU := up_any w
  go_enter Tryd.func4, Tryd.ntmps4
  go_wp2_with (first
    | (go_at_call 5; (with_reducible refine hU.mono ?_); rintro e w1 ⟨rfl, hx1⟩)
    | (go_at_call 6; (with_reducible refine (new_dk 1125899906842624 w1 (by decide) (by decide)).mono ?_); rintro e w2 ⟨d, b0, rfl, D0, hx2⟩))
  go_ret
  exact ⟨rfl, hx1.trans hx2⟩
set_option maxRecDepth 4000 in
set_option maxHeartbeats 3200000 in
theorem cuts_go (A2 : Option Addr) (n2 c2 : Nat) (M : List (List UInt8)) (st kp : Int) (w : World) (hB : ArgBB w A2 n2 c2 M) (hbnd : n2 + (M.map List.length).sum ≤ 1048576) (h0 : 0 ≤ st) (hst : st ≤ 9223372036854775807) (hkp : -9223372036854775808 ≤ kp ∧ kp ≤ 9223372036854775807) :
    Calls Tryd.prog 4 #[.slice A2 n2 c2, .int .i64 st, .int .i64 kp] w fun e w' => e = .returned (.bool true) ∧ Ext w w' := by
  have hU := up_any w
  obtain ⟨hlM, hleM, hmaxM, vsM, hrM, haM⟩ := hB
  obtain ⟨x, hx⟩ : ∃ x : ByteArray, x = ⟨#[108, 111, 103]⟩ := ⟨_, rfl⟩
  have hxl : x.data.toList = [108, 111, 103] := by rw [hx]
  have hxs : x.size ≤ 281474976710656 := by rw [hx]; decide
  have hxn : nameOk x.data.toList = true := by rw [hxl]; decide
  have hflat : ∀ i, (flat (M.take i)).length ≤ 9437184 := fun i => by
    have h1 := flat_take M i
    have h2 := flat_bound M
    omega
  have hsm : ∀ r ∈ M, r.length ≤ 1048576 := fun r hr => by
    have := mem_le_sum (List.mem_map_of_mem (f := List.length) hr)
    omega
  obtain ⟨S2, hS2⟩ : ∃ S2, S2 = (cutd (newD 1125899906842624) st).2 := ⟨_, rfl⟩
  have hS2e : S2 = { newD 1125899906842624 with bud := st } := by rw [hS2]; unfold cutd; rw [if_neg (by omega)]; rfl
  have hK0 : Kp S2 x.data.toList (flat (M.take 0)) := by rw [hS2e]; exact ⟨rfl, .inl ⟨rfl, rfl⟩⟩
  have hR0 : S2.room = r50 := by rw [hS2e]; rfl
  have kO : ∀ (w2 : World) (B d : Nat) (b0 : List Nat), Dsk w2 B d (newD 1125899906842624) b0 → Calls Tryd.prog 8 #[.pointer (some ⟨d, 0, none⟩), .string x] w2 fun e w' => e = .returned (.tuple #[.pointer (some ⟨w2.heap.size, 0, none⟩), .slice none 0 0, .nilIface]) ∧ LogAt w' w2.heap.size d x ∧ Ext w2 w' := fun w2 B d b0 hD =>
    open_none B d _ b0 x w2 hD hxs rfl hxn
  have kC : ∀ (w3 : World) (B d : Nat) (b0 : List Nat), Dsk w3 B d (newD 1125899906842624) b0 → Calls Tryd.prog 15 #[.pointer (some ⟨d, 0, none⟩), .int .i64 st] w3 fun e w' => e = .returned .nilIface ∧ DN w3 B d b0 S2 w' := fun w3 B d b0 hD => by
    have := cut_dk st hD hst
    rw [show (cutd (newD 1125899906842624) st).1 = 0 by unfold cutd; rw [if_neg (by omega)]] at this
    rw [hS2]
    exact this
  replace hflat := Lib.hid hflat
  replace hsm := Lib.hid hsm
  have HX := Lib.hid (And.intro hxs hxn)
  clear hS2 hS2e hxl hxs hxn
  go_enter Tryd.func4, Tryd.ntmps4
  go_upto_region 9 with (first
    | (go_at_call 5; (with_reducible refine hU.mono ?_); rintro e w1 ⟨rfl, hx1⟩; have HB := Lib.hid hx1.size; have X1 := Lib.hid hx1; clear hx1)
    | (go_at_call 6; (with_reducible refine (new_dk 1125899906842624 w1 (by decide) (by decide)).mono ?_); rintro e w2 ⟨d, b0, rfl, D0, hx2⟩; replace hx2 := Lib.hid hx2)
    | (go_at_call 8; rw [← hx]; (with_reducible refine (kO w2 w1.heap.size d b0 D0).mono ?_); rintro e w3 ⟨rfl, hg, hx3⟩; have X3 := Lib.hid ((X1.out.trans hx2.out).trans hx3); have D1 := D0.ext hx3; replace hg := Lib.hid hg; clear hx3)
    | (go_at_call 15; (with_reducible refine (kC w3 w1.heap.size d b0 D1).mono ?_); rintro e w4 ⟨rfl, b1, D2, T2⟩; have X4 := Lib.hid (stp_ext X3.out HB.out D1 T2)))
  have hgb : w2.heap.size ∉ b0 := fun hm => by have := (D0.lt _ hm).2; omega
  obtain ⟨g, hgg⟩ : ∃ g, g = w2.heap.size := ⟨_, rfl⟩
  rw [← hgg] at hg hgb
  simp only [← hgg]
  have L4 := hg.out.keep T2.k hgb
  have e7 := T2.not hg.out.lt hgb
  have hst : Hid (Kp S2 x.data.toList (flat (M.take 0)) ∧ S2.room = r50 ∧ Dsk w4 w1.heap.size d S2 b1 ∧ LogAt w4 g d x ∧ g ∉ b1 ∧ Ext w w4) := Lib.hid ⟨hK0, hR0, D2, L4, e7, X4.out⟩
  have kP : ∀ (S : DS) (cs : List Nat) {w12 : World}, Dsk w12 w1.heap.size d S cs → _ := fun S cs {w12} hD => power_dk kp hD hkp
  clear hgg hK0 hR0 D0 D1 D2 L4 e7 T2 kO kC hU hgb hg
  go_wp2
  go_loopw [14] (fun t wr => ∃ (k : Nat) (S : DS) (cs : List Nat), k ≤ n2 ∧ t = .int .i64 k ∧ Hid (Kp S x.data.toList (flat (M.take k)) ∧ S.room = r50 ∧ Dsk wr w1.heap.size d S cs ∧ LogAt wr g d x ∧ g ∉ cs ∧ Ext w wr)) (fun t _ => n2 - (intOf t).toNat)
  case atStart => exact ⟨0, S2, b1, by omega, rfl, hst⟩
  case round =>
    obtain ⟨k, S, cs, hk, rfl, hinv⟩ := hrel
    obtain ⟨e1, e2, e3, e4, e5, e6⟩ := hinv.out
    by_cases h1 : k < n2
    · have hiM : k < M.length := by omega
      have hv : k < vsM.length := by rw [haM.len]; omega
      obtain ⟨A5, n5, c5, hb5, hq5, hn5, hm5, hx5, _⟩ := haM.get k hv hiM
      have hA2 := hrM.at_ hv
      rw [hb5] at hA2
      obtain ⟨ad, hade, hc5⟩ := hA2
      have hr5 : M[k].length ≤ 1048576 := hsm.out _ (List.getElem_mem _)
      have hft := hflat.out k
      have hla := e1.lapp (bump := wrap64) M[k] HX.out.2 (by omega) (by rw [e2, frame_length]; unfold r50; omega)
      have kL := lapp_any w1.heap.size g d S cs x A5 n5 c5 M[k] wr e4 e5 e3 HX.out.1 hq5 (hx5.ext e6) (ap_ge hx5 HB.out e3) (by omega) (by rw [e1.cont]; omega) (by have := e1.len; omega)
      obtain ⟨S', hS'⟩ : ∃ S', S' = (lapp wrap64 S x.data.toList M[k]).2 := ⟨_, rfl⟩
      rw [← hS'] at kL hla
      have hc5w := e6.cell hc5
      have HT := Lib.hid (flat_succ hiM)
      have h5 : n5 ≤ 1048576 := by omega
      rcases hla with ⟨⟨hz, hK⟩ | ⟨hz, hK⟩, hroom⟩
      · rw [hz] at kL
        have HK := Lib.hid hK
        have HR := Lib.hid (hroom.trans e2)
        clear hb5 hq5 hn5 hm5 hx5 hr5 hft hst hz hK hroom hS' e1 e2
        generalize M[k] = r at *
        subst hade
        go_wp2_with (go_at_call 13; (with_reducible refine kL.mono ?_); rintro e w9 ⟨rfl, cs9, D9, T9⟩; have X9 := Lib.hid (stp_ext e6 HB.out e3 T9); rw [errV_zero])
        refine ⟨⟨k + 1, S', cs9, by omega, by go_num, Lib.hid ⟨?_, HR.out, D9, e4.keep T9.k e5, T9.not e4.lt e5, X9.out⟩⟩, by simp [intOf]; omega⟩
        rw [HT.out]
        exact HK.out
      · rw [hz] at kL
        have hfb : (flat (M.take k) ++ frame M[k]).length ≤ 35184372088832 := by
          rw [List.length_append, frame_length]; omega
        obtain ⟨j, hj, hjl, hfin⟩ := cut_fin hiM hK (fun r hr => by have := hsm.out r hr; omega) hfb kp
        have HF := Lib.hid (And.intro hfin HX.out)
        have HJL : Hid ((M.take j).length = j) := Lib.hid (by rw [List.length_take]; omega)
        have hj1 : (k : Int) ≤ (j : Int) := by omega
        have hj2 : (j : Int) ≤ (k : Int) + 1 := by omega
        have hj3 : (j : Int) ≤ (n2 : Int) := by omega
        have hj4 : j ≤ n2 := by omega
        have hj5 : j ≤ c2 := by omega
        clear hb5 hq5 hn5 hm5 hx5 hr5 hft hst hz hK hroom hS' e1 e2 hj hfb hfin
        generalize M[k] = r at *
        have kL2 : Calls Tryd.prog 13 #[.pointer (some ⟨g, 0, none⟩), .slice A5 n5 c5] wr fun e w' => e = .returned (.iface 34 (.int .i64 11)) ∧ DN wr w1.heap.size d cs S' w' := kL
        subst hade
        go_upto_region 16 with (go_at_call 13; (with_reducible refine kL2.mono ?_); rintro e w9 ⟨rfl, cs9, DX, T9⟩; have XX := (stp_ext e6 HB.out e3 T9))
        go_wp2_with (first
          | (go_at_call 16; (with_reducible refine (kP _ _ DX).mono ?_); rintro e w12 ⟨rfl, cs12, D12, T12⟩; have X12 := Lib.hid (stp_ext XX HB.out DX T12); clear T12)
          | (go_at_call 8; rw [← hx]; (with_reducible refine (open_fin w1.heap.size d _ cs12 x (M.take j) j w12 HJL.out D12 HF).mono ?_); rintro e w13 ⟨g7, A7, c7, rfl, vs7, hr7, ha7, cs7, T13⟩; have X13 := Lib.hid (stp_ext X12.out HB.out D12 T13); have hrM13 := hrM.ext X13.out; have haM13 := haM.ext X13.out fun _ _ => trivial)
          | (go_at_call 11; (with_reducible refine (same_any A7 (some ad) j j c7 c2 vs7 (vsM.take j) (M.take j) (M.take j) _ _ w13 HJL.out HJL.out hr7 (hrM13.take j) ha7 (AllB.take j haM13) (by omega) (by omega)).mono ?_); rintro e w14 ⟨rfl, m14, rfl⟩; rw [decide_eq_true (rfl : M.take j = M.take j)]))
        go_ret
        exact ⟨rfl, X13.out.trans ((Ext.refl _).drewN _)⟩
    · obtain rfl : k = n2 := by omega
      have hft := hflat.out k
      have HF := Lib.hid (And.intro (kp_fin e1 (fun r hr => by have := hsm.out r hr; omega) (by omega) kp) HX.out)
      have HJL : Hid ((M.take k).length = k) := Lib.hid (by rw [List.length_take]; omega)
      have DX := e3
      have XX := e6
      obtain ⟨j, hjk⟩ : ∃ j, j = k := ⟨_, rfl⟩
      rw [← hjk] at HF HJL
      have hj1 : (k : Int) ≤ (j : Int) := by omega
      have hj2 : (j : Int) ≤ (k : Int) + 1 := by omega
      have hj3 : (j : Int) ≤ (k : Int) := by omega
      have hj4 : j ≤ k := by omega
      have hj5 : j ≤ c2 := by omega
      clear hinv e1 e2 e4 e5 hst hft hjk
      go_wp2_with (first
        | (go_at_call 16; (with_reducible refine (kP _ _ DX).mono ?_); rintro e w12 ⟨rfl, cs12, D12, T12⟩; have X12 := Lib.hid (stp_ext XX HB.out DX T12); clear T12)
        | (go_at_call 8; rw [← hx]; (with_reducible refine (open_fin w1.heap.size d _ cs12 x (M.take j) j w12 HJL.out D12 HF).mono ?_); rintro e w13 ⟨g7, A7, c7, rfl, vs7, hr7, ha7, cs7, T13⟩; have X13 := Lib.hid (stp_ext X12.out HB.out D12 T13); have hrM13 := hrM.ext X13.out; have haM13 := haM.ext X13.out fun _ _ => trivial)
        | (go_at_call 11; (with_reducible refine (same_any A7 A2 j j c7 c2 vs7 (vsM.take j) (M.take j) (M.take j) _ _ w13 HJL.out HJL.out hr7 (hrM13.take j) ha7 (AllB.take j haM13) (by omega) (by omega)).mono ?_); rintro e w14 ⟨rfl, m14, rfl⟩; rw [decide_eq_true (rfl : M.take j = M.take j)]))
      go_ret
      exact ⟨rfl, X13.out.trans ((Ext.refl _).drewN _)⟩
theorem cuts_w (A2 : Option Addr) (n2 c2 : Nat) (M : List (List UInt8)) (st kp : Int) (w : World) (_ : True) (hM : ArgBB w A2 n2 c2 M) (hst : (Lit.int .i64 st).wf = true) (hkp : (Lit.int .i64 kp).wf = true) (hbnd : (n2 + (M.map List.length).sum) ≤ 1048576) :
    Calls Tryd.prog 4 #[.slice A2 n2 c2, .int .i64 st, .int .i64 kp] w fun e w' => e = .returned (.bool true) ∧ Ext w w' := by
  have b1 : -9223372036854775808 ≤ st ∧ st ≤ 9223372036854775807 := by
    simp [Lit.wf, IntKind.min, IntKind.max, IntKind.signed, IntKind.bits] at hst
    omega
  have b2 : -9223372036854775808 ≤ kp ∧ kp ≤ 9223372036854775807 := by
    simp [Lit.wf, IntKind.min, IntKind.max, IntKind.signed, IntKind.bits] at hkp
    omega
  by_cases h : st < 0
  · exact cuts_neg A2 n2 c2 st kp w h
  · exact cuts_go A2 n2 c2 M st kp w hM hbnd (by omega) b1.2 b2
end Go.Proofs.YtjnbbfhoegeppaaDoor
