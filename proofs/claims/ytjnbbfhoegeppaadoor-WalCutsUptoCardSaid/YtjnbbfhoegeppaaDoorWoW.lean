/-
  The walk of the statement WalOpens.
-/
import Derived.Test.YtjnbbfhoegeppaaDoorWoB
import Derived.Test.YtjnbbfhoegeppaaDoorWalR
import Derived.Test.YtjnbbfhoegeppaaDoorWalUp
import Derived.Test.YtjnbbfhoegeppaaDoorArgs
set_option linter.unusedSimpArgs false
set_option linter.unusedVariables false
namespace Go.Cv.Wal
open Go Go.Cv.Dk
theorem scans_cons {l r : List UInt8} (h : scan1 l = some r) {R : List (List UInt8)} {u : Nat} (hs : Scans (l.drop (8 + r.length)) R u) : Scans l (r :: R) (8 + r.length + u) := by
  obtain ⟨h1, h2, h3⟩ := scan1_some h
  have hle := hs.le
  rw [List.length_drop] at hle
  refine ⟨by omega, ?_, fun x hx => ?_, ?_⟩
  · rw [List.map_cons, List.flatten_cons, hs.eq, List.take_add]
    congr 1
    have := frame_length r
    conv => rhs; rw [h1]
    rw [List.take_append_of_le_length (by omega), List.take_of_length_le (by omega)]
  · rcases List.mem_cons.1 hx with rfl | hx
    · exact h2
    · exact hs.small x hx
  · have := hs.last
    rwa [List.drop_drop] at this
theorem scans_ex : ∀ (n : Nat) (l : List UInt8), l.length ≤ n → ∃ R u, Scans l R u
  | 0, l, h => by
    have e : l = [] := List.length_eq_zero_iff.1 (by omega)
    subst e
    exact ⟨[], 0, scans_empty⟩
  | n + 1, l, h => by
    rcases hs : scan1 l with _ | r
    · exact ⟨[], 0, Nat.zero_le _, by simp, by simp, by simpa using hs⟩
    · obtain ⟨h1, h2, h3⟩ := scan1_some hs
      obtain ⟨R, u, hR⟩ := scans_ex n (l.drop (8 + r.length)) (by rw [List.length_drop]; omega)
      exact ⟨_, _, scans_cons hs hR⟩
theorem flat_take (R : List (List UInt8)) (k : Nat) : (flat (R.take k)).length ≤ (flat R).length := by
  have : flat R = flat (R.take k) ++ flat (R.drop k) := by rw [← flat_append, List.take_append_drop]
  rw [this]; simp
end Go.Cv.Wal
namespace Go.Proofs.YtjnbbfhoegeppaaDoor
open Go.RowKit Go.Cv Go.Cv.Dk Go.Cv.Wal
theorem stp_ext {w a b : World} {B d : Nat} {S : DS} {bs cs : List Nat} (hx : Ext w a) (hB : w.heap.size ≤ B) (hD : Dsk a B d S bs) (hS : Stp bs cs a b) : Ext w b := ⟨hS.k.os.trans hx.os, hS.k.tape.trans hx.tape, hS.k.output.trans hx.output, Nat.le_trans hx.size hS.k.size, fun k hk => by
  have hs := hx.size
  rw [hS.k.keep k (by omega) (fun hm => by have := (hD.lt k hm).1; omega)]
  exact hx.block k hk⟩
theorem ap_ge {w a : World} {B d : Nat} {S : DS} {bs : List Nat} {A : Option Addr} {l : List UInt8} (hr : Rd w A (l.map bv)) (hB : w.heap.size ≤ B) (hD : Dsk a B d S bs) : Ap A l bs := Ap.of_lt hr fun x h => Nat.le_trans hB (hD.lt x h).1
theorem dsk_new {w w' : World} {B d : Nat} {S : DS} {bs : List Nat} (h : Dsk w B d S bs) : Dsk w B d S bs := h
def r50 : Int := 1125899906842624
/-- Records that lie where an argument lies. -/
theorem recs_arg {w w0 w' : World} {B d : Nat} {S : DS} {A1 A : Option Addr} {n c : Nat} {l : List UInt8} {vs : List Value} {R : List (List UInt8)} {u : Nat} {bs : List Nat} (hl : l.length = n) (hr0 : Rd w A1 (l.map bv)) (hB : w.heap.size ≤ B) (hE : Ext w w') (hsc : Scans l R u)
    (ho : w'.ownsRow w0.heap.size 22 1 (.slice A R.length c) R.length vs) (hc : R.length ≤ c) (hm : c ≤ maxLen) (hr : Rd w' A vs) (ha : AllB (InA A1) w' vs R) (hD : Dsk w0 B d S bs) : Recs w' A c R bs :=
  Recs.of_scan ho hc hm hr ha (fun x hx => (hD.lt x hx).2) fun ad h hne => by
    obtain ⟨a0, rfl, e⟩ := h
    have hl0 : 0 < (l.map bv).length := by
      rcases l with _ | ⟨x, t⟩
      · exfalso
        have := hsc.count
        simp at this
        exact hne (List.length_eq_zero_iff.1 (by omega))
      · simp
    obtain ⟨ad', e', hlt⟩ := hr0.some_ hl0
    cases e'
    rw [e]
    exact ⟨fun hm => by have := (hD.lt _ hm).1; omega, by have := hE.size; omega⟩
theorem recs_push {w : World} {A' : Option Addr} {base c' : Nat} {vs : List Value} {R : List (List UInt8)} {r : List UInt8} {v : Value} {cs : List Nat} (ho : w.ownsRow base 22 1 (.slice A' (R.length + 1) c') (R.length + 1) (vs ++ [v])) (hb : ∀ x ∈ cs, x < base) (hc : R.length + 1 ≤ c') (hm : c' ≤ maxLen)
    (hr : Rd w A' (vs ++ [v])) (ha : AllB Any_ w vs R) (hp : ∀ u ∈ vs, Apt w cs u) (hv : IsB Any_ w v r) (hpv : Apt w cs v) : Recs w A' c' (R ++ [r]) cs := by
  refine ⟨by simpa using hc, hm, .inr fun x hx => ?_, vs ++ [v], hr, AllB.snoc hv ha, fun u hu => ?_⟩
  · have := ho.lt x (rowOf_own hx)
    exact ⟨fun hmm => by have := hb x hmm; omega, this.2⟩
  · rcases List.mem_append.1 hu with h | h
    · exact hp u h
    · rw [List.mem_singleton.1 h]; exact hpv
theorem rd_new_list (w : World) (xs : List Value) (t : TypeId) : Rd (w.alloc (.cells xs.toArray t)) (some ⟨w.heap.size, 0, none⟩) xs := Rd.of_cells fun j u hu => by
  have hr := Row.alloc w xs t
  have hj : j < xs.length := by
    rcases Nat.lt_or_ge j xs.length with h | h
    · exact h
    · rw [List.getElem?_eq_none h] at hu; cases hu
  have e : (⟨w.heap.size, 0, none⟩ : Addr).add j = ⟨w.heap.size, j, none⟩ := by unfold Addr.add; split <;> simp_all
  rw [e, hr.cell hj]
  rw [List.getElem?_eq_getElem hj] at hu
  exact hu
set_option maxRecDepth 4000 in
set_option maxHeartbeats 1600000 in
theorem opens_bad (s : ByteArray) (A1 : Option Addr) (n1 c1 : Nat) (A2 : Option Addr) (n2 c2 : Nat) (w : World) (hs : s.size ≤ 281474976710656) (hn : nameOk s.data.toList = false) :
    Calls Tryd.prog 3 #[.string s, .slice A1 n1 c1, .slice A2 n2 c2] w fun e w' => e = .returned (.bool true) ∧ Ext w w' := by
  have hU := up_any w
  have hN := fun w => rnamed_any s w hs
  rw [hn] at hN
  have hf9 : fnd (newD 1125899906842624) s.data.toList ≠ 0 := by show (9 : Nat) ≠ 0; decide
  go_enter Tryd.func3, Tryd.ntmps3
  go_wp2_with (first
    | (go_at_call 5; (with_reducible refine hU.mono ?_); rintro e w1 ⟨rfl, hx1⟩)
    | (go_at_call 6; (with_reducible refine (new_dk 1125899906842624 w1 (by decide) (by decide)).mono ?_); rintro e w2 ⟨d, b0, rfl, D0, hx2⟩)
    | (go_at_call 7; (with_reducible refine (hN w2).mono ?_); rintro e w3 ⟨rfl, hx3⟩)
    | (go_at_call 8; (with_reducible refine (open_unnamed w1.heap.size d (newD 1125899906842624) b0 s w3 (D0.ext hx3) hs hf9 hn).mono ?_); rintro e w4 ⟨rfl, hx4⟩))
  go_ret
  exact ⟨rfl, hx1.trans (hx2.trans (hx3.trans hx4))⟩
set_option maxRecDepth 4000 in
set_option maxHeartbeats 3200000 in
theorem opens_go (s : ByteArray) (A1 : Option Addr) (n1 c1 : Nat) (b : List UInt8) (A2 : Option Addr) (n2 c2 : Nat) (M : List (List UInt8)) (w : World) (hs : s.size ≤ 1048576) (hl1 : b.length = n1) (hc1 : n1 ≤ c1) (hm1 : c1 ≤ maxLen) (hr1 : Rd w A1 (b.map bv))
    (hB : ArgBB w A2 n2 c2 M) (hbnd : n1 + (n2 + (M.map List.length).sum) ≤ 1048576) (hn : nameOk s.data.toList = true) :
    Calls Tryd.prog 3 #[.string s, .slice A1 n1 c1, .slice A2 n2 c2] w fun e w' => e = .returned (.bool true) ∧ Ext w w' := by
  have hU := up_any w
  have hN := fun w => rnamed_any s w (by omega)
  rw [hn] at hN
  obtain ⟨R, u, hsc⟩ := scans_ex b.length b (Nat.le_refl _)
  have hul : u ≤ n1 := by rw [← hl1]; exact hsc.le
  have hRn : R.length ≤ n1 := by have := hsc.count; omega
  have hone := lone_first (bump := wrap64) r50 s.data.toList b hn (by unfold r50; omega)
  obtain ⟨k0, hS1, hroom1⟩ := hone
  have hap : ∀ w2 d b0, Dsk w2 w2.heap.size d (newD 1125899906842624) b0 → True := fun _ _ _ _ => trivial
  obtain ⟨S1, hSe⟩ : ∃ S1, S1 = (app wrap64 (newD 1125899906842624) s.data.toList b).2 := ⟨_, rfl⟩
  have hS1' : Lone S1 s.data.toList b := by rw [hSe]; exact hS1
  have hr1' : S1.room = r50 := by rw [hSe]; exact hroom1
  have kA : ∀ (w1 w2 : World) (d : Nat) (b0 : List Nat), Ext w w1 → Ext w1 w2 → Dsk w2 w1.heap.size d (newD 1125899906842624) b0 →
      Calls Tryd.prog 9 #[.pointer (some ⟨d, 0, none⟩), .string s, .slice A1 n1 c1] w2 fun e w' => e = .returned .nilIface ∧ DN w2 w1.heap.size d b0 S1 w' := fun w1 w2 d b0 hx hx2 hD => by
    refine (append_dk s A1 n1 c1 b hD (by omega) hl1 (hr1.ext (hx.trans hx2)) (ap_ge hr1 hx.size hD) (by show 0 + n1 ≤ _; omega) (by show 0 < _; omega)).mono fun e w' x => ?_
    have x1 := x.1
    rw [show (app wrap64 (newD 1125899906842624) s.data.toList b).1 = 0 from k0] at x1
    exact ⟨x1, by rw [hSe]; exact x.2⟩
  obtain ⟨z2, hS2, hr2'⟩ := hS1'.lcut (bump := wrap64) u hsc.le
  have kO : ∀ (w3 : World) (B d : Nat) (cs : List Nat), Dsk w3 B d S1 cs → Calls Tryd.prog 8 #[.pointer (some ⟨d, 0, none⟩), .string s] w3 fun e w' => Opened B d cs s w3 R (lcut wrap64 S1 s.data.toList u).2 e w' := fun w3 B d cs hD =>
    open_ok B d S1 cs s w3 R u hD (by omega) hS1'.fnd (by rw [hS1'.cont]; exact hsc) (by rw [hS1'.cont]; omega) z2
  obtain ⟨S2, hSe2⟩ : ∃ S2, S2 = (lcut wrap64 S1 s.data.toList u).2 := ⟨_, rfl⟩
  rw [← hSe2] at kO hS2 hr2'
  have hcu := hsc.pos
  have kR : ∀ (w4 : World) (B d : Nat) (cs : List Nat), Dsk w4 B d S2 cs → Calls Tryd.prog 12 #[.pointer (some ⟨d, 0, none⟩), .string s] w4 fun e w' => ∃ A c, e = .returned (.tuple #[.slice A u c, .nilIface]) ∧ Ext w4 w' := fun w4 B d cs hD => by
    refine (read_dk s hD (by omega) hS2.fnd).mono fun e w' x => ?_
    obtain ⟨v, rfl, A, c, rfl, hx, _⟩ := x
    rw [hS2.cont, hcu]
    exact ⟨A, c, rfl, hx⟩
  obtain ⟨hlM, hleM, hmaxM, vsM, hrM, haM⟩ := hB
  have H1 := Lib.hid hl1
  have HSC := Lib.hid hsc
  have HS2 := Lib.hid hS2
  replace hr1' := Lib.hid hr1'
  replace hr2' := Lib.hid hr2'
  have HN := Lib.hid hn
  clear hSe hSe2 hS1 hS1' hS2 hsc hl1 k0 z2 hap hroom1 hcu hn
  have kS : ∀ (w5 : World) (hE : Ext w w5), Calls Tryd.prog 10 #[.slice A1 n1 c1] w5 (RetScan (InA A1) w5 b) := fun w5 hE => rscan_any A1 n1 c1 b w5 H1.out hc1 hm1 (hr1.ext hE) (by omega)
  go_enter Tryd.func3, Tryd.ntmps3
  go_upto_region 16 with (first
    | (go_at_call 5; (with_reducible refine hU.mono ?_); rintro e w1 ⟨rfl, hx1⟩; have HB := Lib.hid hx1.size; have X1 := Lib.hid hx1; clear hx1)
    | (go_at_call 6; (with_reducible refine (new_dk 1125899906842624 w1 (by decide) (by decide)).mono ?_); rintro e w2 ⟨d, b0, rfl, D0, hx2⟩; replace hx2 := Lib.hid hx2)
    | (go_at_call 7; (with_reducible refine (hN w2).mono ?_); rintro e w3 ⟨rfl, hx3⟩; have hx3' := Lib.hid (hx2.out.trans hx3); have D1 := D0.ext hx3; clear hx3)
    | (go_at_call 9; (with_reducible refine (kA w1 w3 d b0 X1.out hx3'.out D1).mono ?_); rintro e w4 ⟨rfl, b1, D2, T2⟩; have X4 := Lib.hid (stp_ext (X1.out.trans hx3'.out) HB.out D1 T2); clear T2)
    | (go_at_call 8; (with_reducible refine (kO w4 w1.heap.size d b1 D2).mono ?_); rintro e w5 ⟨g, A3, c3, cs, rfl, hg, hgc, hgw, hrc, D3, T3⟩; have X5 := Lib.hid (stp_ext X4.out HB.out D2 T3); replace hg := Lib.hid hg; replace hgc := Lib.hid hgc; clear T3 hgw)
    | (go_at_call 10; (with_reducible refine (kS w5 X5.out).mono ?_); rintro e w6 ⟨A4, c4, vs4, R4, u4, hs4, rfl, hx6, ho4, hc4, hm4, hr4, ha4⟩; obtain ⟨rfl, rfl⟩ := Scans.unique hs4 HSC.out; have X6 := Lib.hid (X5.out.trans hx6); have W4 := Lib.hid (recs_arg H1.out hr1 HB.out X6.out HSC.out ho4 hc4 hm4 hr4 ha4 D3); obtain ⟨vs3, hr3, ha3, hp3⟩ := (hrc.ext hx6).rd; replace hx6 := Lib.hid hx6)
    | (go_at_call 11; (with_reducible refine (same_any A3 A4 R4.length R4.length c3 c4 vs3 vs4 R4 R4 _ _ w6 rfl rfl hr3 hr4 ha3 ha4 (by omega) (by omega)).mono ?_); rintro e w7 ⟨rfl, m7, rfl⟩; rw [decide_eq_true (rfl : R4 = R4)])
    | (go_at_call 12; (with_reducible refine (kR _ w1.heap.size d cs (D3.ext (hx6.out.trans ((Ext.refl _).drewN _)))).mono ?_); rintro e w8 ⟨A8, c8, rfl, hx8⟩))
  have hE68 : Ext w6 w8 := ((Ext.refl w6).drewN m7).trans hx8
  have X8 := X6.out.trans hE68
  have D8 := D3.ext (hx6.out.trans hE68)
  have L8 := hg.out.ext (hx6.out.trans hE68)
  have C8 := W4.out.ext hE68
  have hr50 : S2.room = r50 := hr2'.out.trans hr1'.out
  have hflat : ∀ i, (flat (M.take i)).length ≤ 9437184 := fun i => by
    have h1 := flat_take M i
    have h2 := flat_bound M
    omega
  have hsm : ∀ r ∈ M, r.length ≤ 1048576 := fun r hr => by
    have := mem_le_sum (List.mem_map_of_mem (f := List.length) hr)
    omega
  have hst : Hid (R4.length = (R4 ++ M.take 0).length ∧ Recs w8 A4 c4 (R4 ++ M.take 0) cs ∧ Dsk w8 w1.heap.size d S2 cs ∧ Lone S2 s.data.toList (b.take u4 ++ flat (M.take 0)) ∧ S2.room = r50 ∧ LogAt w8 g d s ∧ g ∉ cs ∧ Ext w w8) := Lib.hid (by
    simp only [List.take_zero, List.append_nil, flat_nil]
    exact ⟨trivial, C8, D8, HS2.out, hr50, L8, hgc.out, X8⟩)
  have hRq : R4.length ≤ 1048576 := by omega
  replace hflat := Lib.hid hflat
  replace hsm := Lib.hid hsm
  clear hE68 X8 D8 L8 C8 hr50 hr3 ha3 hp3 hr4 ha4 ho4 hs4 D0 D1 D2 D3 hrc W4 HS2 kA kO kR kS hx8 hU hN
  go_wp2
  go_loopw [18, 23] (fun v t wr => ∃ (i q : Nat) (A : Option Addr) (c : Nat) (S : DS) (cs : List Nat), i ≤ n2 ∧ t = .int .i64 i ∧ v = .slice A q c ∧ q ≤ 2097152 + i ∧ Hid (q = (R4 ++ M.take i).length ∧ Recs wr A c (R4 ++ M.take i) cs ∧ Dsk wr w1.heap.size d S cs ∧ Lone S s.data.toList (b.take u4 ++ flat (M.take i)) ∧ S.room = r50 ∧ LogAt wr g d s ∧ g ∉ cs ∧ Ext w wr)) (fun _ t _ => n2 - (intOf t).toNat)
  case atStart => exact ⟨0, R4.length, A4, c4, S2, cs, by omega, rfl, rfl, by omega, hst⟩
  case round =>
    obtain ⟨i, q, A, c, S, cs, hi, rfl, rfl, hq, hinv⟩ := hrel
    by_cases h1 : i < n2
    · have hiM : i < M.length := by omega
      have hv : i < vsM.length := by rw [haM.len]; omega
      obtain ⟨A5, n5, c5, hb5, hq5, hn5, hm5, hx5, _⟩ := haM.get i hv hiM
      obtain ⟨ad, rfl, hc5⟩ := hrM.at_ hv
      rw [hb5] at hc5
      have hr5 : M[i].length ≤ 1048576 := hsm.out _ (List.getElem_mem _)
      obtain ⟨e1, e2, e3, e4, e5, e6, e7, e8⟩ := hinv.out
      have hcc := e4.cont
      have hft := hflat.out i
      have htk : (b.take u4).length ≤ n1 := by rw [List.length_take, H1.out]; omega
      have hbl : (b.take u4 ++ flat (M.take i)).length ≤ 11000000 := by rw [List.length_append]; omega
      have hla := e4.lapp (bump := wrap64) M[i] HN.out (by omega) (by rw [e5, frame_length]; unfold r50; omega)
      have kL := lapp_any w1.heap.size g d S cs s A5 n5 c5 M[i] wr e6 e7 e3 (by omega) hq5 (hx5.ext e8) (ap_ge hx5 HB.out e3) (by omega) (by rw [hcc]; omega) (by rw [e4.len]; omega)
      rw [hla.1] at kL
      obtain ⟨S', hS'⟩ : ∃ S', S' = (lapp wrap64 S s.data.toList M[i]).2 := ⟨_, rfl⟩
      have hLo : Lone S' s.data.toList (b.take u4 ++ flat (M.take (i + 1))) := by
        rw [hS', flat_succ hiM, ← List.append_assoc]
        exact hla.2.1
      have hRo : S'.room = r50 := by rw [hS', hla.2.2]; exact e5
      rw [← hS'] at kL
      have hc5w := e8.cell hc5
      have hqi : (q : Int) ≤ 2097152 + (i : Nat) := by omega
      have HT := Lib.hid (List.take_succ_eq_append_getElem hiM)
      have h5 : n5 ≤ 1048576 := by omega
      have HV : Hid (IsB Any_ w (.slice A5 n5 c5) M[i]) := Lib.hid ⟨A5, n5, c5, rfl, hq5, hn5, hm5, hx5, fun _ _ => trivial⟩
      have hqc : q ≤ c := by rw [e1]; exact e2.le
      have HI := Lib.hid (And.intro hLo hRo)
      have E1 := Lib.hid e1
      generalize M[i] = r at *
      clear hla hS' hLo hRo hb5 hq5 hn5 hm5 hx5 hr5 hcc hft htk hbl e4 e5 hst e1
      go_upto_region 25 with (go_at_call 13; (with_reducible refine kL.mono ?_); rintro e w9 ⟨rfl, cs9, D9, T9⟩; have X9 := Lib.hid (stp_ext e8 HB.out e3 T9); have hc9 := X9.out.cell hc5; rw [errV_zero])
      have hqci : (q : Int) ≤ (c : Nat) := by omega
      obtain ⟨vs, hrv, hav, hpv⟩ := (e2.step T9).rd
      have hqv : vs.length = q := by rw [E1.out]; exact hav.len
      have D10 := D9.ext (ext_drew w9)
      have T10 := Lib.hid (T9.ext (ext_drew w9))
      have X10 := Lib.hid (X9.out.trans (ext_drew w9))
      have L10 := Lib.hid ((e6.keep T9.k e7).ext (ext_drew w9))
      have e7' := T9.not e6.lt e7
      have hrv10 := Lib.hid (hrv.ext (ext_drew w9))
      have hav10 := Lib.hid (hav.ext (ext_drew w9) fun _ _ => trivial)
      have hpv10 : Hid (∀ v ∈ vs, Apt w9.drew cs9 v) := Lib.hid fun v hv => (hpv v hv).step (Stp.of_ext (ext_drew w9))
      have hqh := Lib.hid hqv
      have hd := hc9
      clear hqv hrv hav hpv
      go_region_law (refine step_appnew rfl (.tmp 151) (.tmp 156) 23 22 24 rfl rowrow A q q vs rfl hqh.out (hrv10.out.ext (ext_alloc _ _)) (some ⟨w9.drew.heap.size, 0, none⟩) 1 1 [.slice A5 n5 c5] rfl rfl (rd_new_list w9.drew [.slice A5 n5 c5] _) (by omega) (by unfold maxLen; omega) (by omega) ?_; intro A6 c6 w11 ho6 hc6 hm6 hr6 hx6')
      all_goals
        have hx11 : Ext w9.drew w11 := (ext_alloc w9.drew (.cells #[.slice A5 n5 c5] 22)).trans hx6'
        have HV2 : IsB Any_ w11 (.slice A5 n5 c5) r := by
          obtain ⟨A', n', c', e, h2, h3, h4, h5, _⟩ := HV.out
          injection e with e1 e2 e3
          subst e1; subst e2; subst e3
          exact ⟨A5, n5, c5, rfl, h2, h3, h4, h5.ext (X10.out.trans hx11), fun _ _ => trivial⟩
        have hAp : Apt w11 cs9 (.slice A5 n5 c5) := fun A' n' c' e => by
          injection e with e1 e2 e3
          subst e1; subst e2; subst e3
          obtain ⟨A', n', c', e, h2, h3, h4, h5, _⟩ := HV.out
          injection e with e1 e2 e3
          subst e1; subst e2; subst e3
          rcases Nat.eq_zero_or_pos n5 with h0 | h0
          · exact .inl h0
          · obtain ⟨ad', rfl, hlt⟩ := h5.some_ (by rw [List.length_map, h2]; exact h0)
            refine .inr fun x hx => ?_
            simp [rowOf] at hx
            subst hx
            have hB := HB.out
            exact ⟨fun hm => by have := (D10.lt _ hm).1; omega, by have := (X10.out.trans hx11).size; omega⟩
        have hrec : Recs w11 A6 c6 (R4 ++ M.take i ++ [r]) cs9 := by
          have hq1 : q = (R4 ++ M.take i).length := E1.out
          rw [hq1] at ho6 hc6
          exact recs_push ho6 (fun x hx => by
            have := (D10.lt x hx).2
            have h2 := (ext_alloc w9.drew (.cells #[.slice A5 n5 c5] 22)).size
            exact Nat.lt_of_lt_of_le this h2) hc6 hm6 hr6 (hav10.out.ext hx11 fun _ _ => trivial) (fun v hv => (hpv10.out v hv).step (Stp.of_ext hx11)) HV2 hAp
        go_wp2
        refine ⟨⟨i + 1, q + 1, A6, c6, S', cs9, by omega, by go_num, rfl, by omega, Lib.hid ?_⟩, by simp [intOf]; omega⟩
        rw [HT.out, ← List.append_assoc]
        refine ⟨by rw [E1.out]; exact (@List.length_append _ (R4 ++ M.take i) [r]).symm, hrec, D10.ext hx11, ?_, HI.out.2, L10.out.ext hx11, e7', X10.out.trans hx11⟩
        rw [← HT.out]
        exact HI.out.1
    · obtain rfl : i = n2 := by omega
      obtain ⟨e1, e2, e3, e4, e5, e6, e7, e8⟩ := hinv.out
      have hMn : M.take i = M := List.take_of_length_le (by omega)
      rw [hMn] at e1 e2 e4
      have hft := hflat.out i
      rw [hMn] at hft
      have hscM := scans_more HSC.out (M := M) (fun r hr => by have := hsm.out r hr; omega)
      have htk : (b.take u4).length ≤ n1 := by rw [List.length_take, H1.out]; omega
      have hbl : (b.take u4 ++ flat M).length ≤ 11000000 := by rw [List.length_append]; omega
      obtain ⟨z3, hS3, hr3'⟩ := e4.lcut (bump := wrap64) _ (Nat.le_refl _)
      have kO : ∀ (w3 : World) (cs : List Nat), Dsk w3 w1.heap.size d S cs → Calls Tryd.prog 8 #[.pointer (some ⟨d, 0, none⟩), .string s] w3 fun e w' => ∃ g A c cs', e = .returned (.tuple #[.pointer (some ⟨g, 0, none⟩), .slice A q c, .nilIface]) ∧ Recs w' A c (R4 ++ M) cs' ∧ Dsk w' w1.heap.size d (lcut wrap64 S s.data.toList (b.take u4 ++ flat M).length).2 cs' ∧ Stp cs cs' w3 w' := fun w3 cs hD => by
        refine (open_ok w1.heap.size d S cs s w3 (R4 ++ M) _ hD (by omega) e4.fnd (by rw [e4.cont]; exact hscM) (by rw [e4.cont]; omega) z3).mono fun e w' x => ?_
        obtain ⟨g', A', c', cs', rfl, _, _, _, h1, h2, h3⟩ := x.out
        exact ⟨g', A', c', cs', by rw [← e1], h1, h2, h3⟩
      rw [List.take_length] at hS3
      generalize hL3 : (lcut wrap64 S s.data.toList (b.take u4 ++ flat M).length).2 = S3 at *
      obtain ⟨z4, hS4, hr4'⟩ := hS3.lclr (bump := wrap64)
      have kC : ∀ (w4 : World) (cs : List Nat), LogAt w4 g d s → Dsk w4 w1.heap.size d S3 cs → Calls Tryd.prog 14 #[.pointer (some ⟨g, 0, none⟩)] w4 fun e w' => e = .returned .nilIface ∧ DN w4 w1.heap.size d cs (lclr wrap64 S3 s.data.toList).2 w' := fun w4 cs hg hD => by
        have := lclr_any w1.heap.size g d S3 cs s w4 hg hD (by omega)
        rw [z4] at this
        exact this
      generalize hL4 : (lclr wrap64 S3 s.data.toList).2 = S4 at *
      obtain ⟨z5, hS5, hr5'⟩ := hS4.lcut (bump := wrap64) 0 (Nat.le_refl _)
      have kE : ∀ (w3 : World) (cs : List Nat), Dsk w3 w1.heap.size d S4 cs → Calls Tryd.prog 8 #[.pointer (some ⟨d, 0, none⟩), .string s] w3 fun e w' => Opened w1.heap.size d cs s w3 [] (lcut wrap64 S4 s.data.toList 0).2 e w' := fun w3 cs hD =>
        open_ok w1.heap.size d S4 cs s w3 [] 0 hD (by omega) hS4.fnd (by rw [hS4.cont]; exact scans_empty) (by rw [hS4.cont]; simp) z5
      have kN := fun w => open_nil s w
      have hqb : (R4 ++ M).length ≤ 140737488355328 := by rw [List.length_append]; omega
      obtain ⟨vsW, hrW, haW, hpW⟩ := e2.rd
      have E2 := Lib.hid e2
      have E1 := Lib.hid e1
      have E3 := Lib.hid e3
      have E8 := Lib.hid e8
      have E67 := Lib.hid (And.intro e6 e7)
      clear hinv hMn hft hscM htk hbl z3 z4 z5 hr3' hr4' hr5' hS3 hS4 hS5 e1 e2 e3 e4 e5 e6 e7 e8 hL3 hL4 hst
      go_wp2_with (first
        | (go_at_call 8; (with_reducible refine (kO wr cs E3.out).mono ?_); rintro e w12 ⟨g2, A7, c7, cs7, rfl, hrc2, D12, T12⟩; have X12 := Lib.hid (stp_ext E8.out HB.out E3.out T12); obtain ⟨vs7, hr7, ha7, hp7⟩ := hrc2.rd; obtain ⟨vs8, hr8, ha8, hp8⟩ := (E2.out.step T12).rd; have L12 := Lib.hid (E67.out.1.keep T12.k E67.out.2); have hE1 := Lib.hid E1.out.symm; clear hrc2 T12)
        | (go_at_call 11; (with_reducible refine (same_any A7 A q q c7 c vs7 vs8 (R4 ++ M) (R4 ++ M) _ _ w12 hE1.out hE1.out hr7 hr8 ha7 ha8 (by omega) (by omega)).mono ?_); rintro e w13 ⟨rfl, m13, rfl⟩; rw [decide_eq_true (rfl : R4 ++ M = R4 ++ M)]; have hd13 : Ext w12 (w12.drewN m13) := (Ext.refl w12).drewN m13)
        | (go_at_call 14; (with_reducible refine (kC (w12.drewN m13) cs7 (L12.out.ext hd13) (D12.ext hd13)).mono ?_); rintro e w14 ⟨rfl, cs14, D14, T14⟩; have X14 := Lib.hid (stp_ext (X12.out.trans hd13) HB.out (D12.ext hd13) T14); clear T14)
        | (go_at_call 8; (with_reducible refine (kE w14 cs14 D14).mono ?_); rintro e w15 ⟨g5, A9, c9, cs15, rfl, hg5, hgc5, hgw5, hrc5, D15, T15⟩; have X15 := Lib.hid (stp_ext X14.out HB.out D14 T15); clear T15 hrc5)
        | (go_at_call 8; (with_reducible refine (kN w15).mono ?_); rintro e w16 ⟨rfl, rfl⟩))
      go_ret
      exact ⟨rfl, X15.out⟩
theorem opens_w (s : ByteArray) (A1 : Option Addr) (n1 c1 : Nat) (b : List UInt8) (A2 : Option Addr) (n2 c2 : Nat) (M : List (List UInt8)) (w : World) (_ : True) (hb : ArgB w A1 n1 c1 b) (hM : ArgBB w A2 n2 c2 M) (hbnd : s.size + c1 + (n2 + (M.map List.length).sum) ≤ 1048576) :
    Calls Tryd.prog 3 #[.string s, .slice A1 n1 c1, .slice A2 n2 c2] w fun e w' => e = .returned (.bool true) ∧ Ext w w' := by
  have := hb.le
  cases hn : nameOk s.data.toList
  · exact opens_bad s A1 n1 c1 A2 n2 c2 w (by omega) hn
  · exact opens_go s A1 n1 c1 b A2 n2 c2 M w (by omega) hb.len hb.le hb.max hb.rd hM (by omega) hn
end Go.Proofs.YtjnbbfhoegeppaaDoor
