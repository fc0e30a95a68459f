/-
  Walks of the answer's disk: another name.
-/
import Derived.Test.YtkgnaabmcboffaaDoorDvE
set_option linter.unusedSimpArgs false
set_option linter.unusedVariables false
namespace Go.Proofs.YtkgnaabmcboffaaDoor
open Go.RowKit Go.Cv Go.Cv.Dk
theorem split_del {S : DS} {l1 l2 : List EF} {e : EF} {x : List UInt8} (hl : S.l = (l1 ++ e :: l2).map EF.f) (h1 : ∀ z ∈ l1, z.f.nm ≠ x) (h2 : ∀ z ∈ l2, z.f.nm ≠ x) (hn : e.f.nm = x) : Dk.del S.l x = (l1 ++ l2).map EF.f := by
  rw [hl, List.map_append, List.map_cons, del_split (fun z hz => by obtain ⟨y, hy, rfl⟩ := List.mem_map.1 hz; exact h1 y hy) (fun z hz => by obtain ⟨y, hy, rfl⟩ := List.mem_map.1 hz; exact h2 y hy) hn, List.map_append]
theorem del_no {l : List PF} {x : List UInt8} (h : ∀ z ∈ l, z.nm ≠ x) : Dk.del l x = l := filter_all_ fun z hz => by simpa using h z hz
/-- The name's block, drawn. -/
theorem box_cells {w w' : World} {e : EF} {r : Nat} {b : Nat} {ty : TypeId} (h : Row w b ty (ecells e)) (hk : Keep [r] w w') (hb : b ≠ r) : Row w' b ty (ecells e) := h.keep hk (by simpa using hb)
theorem stp_box {w w3 : World} {F cs : List Nat} (h : Stp F cs w w3) {p : Addr} (hp : w.heap.size ≤ p.block) (v : Value) : Stp F cs w (w3.setCell p v) :=
  ⟨h.k.trans (Keep.setCell w3 p v) fun x hx => .inr (by rw [List.mem_singleton.1 hx]; exact hp), h.n⟩
theorem ren_last {w w3 : World} {B r c3 bx q : Nat} {S3 : DS} {T3 : Option Addr} {L3 : List EF} {e : EF} {F : List Nat} (y : ByteArray) (hR : RAt w3 B r S3 T3 c3 L3) (hS : Stp F (rfoot r T3 L3) w w3) (hE : EAt w3 B e) (hre : r ∉ rowOf e.A) (heF : ∀ x ∈ rowOf e.A, x ∈ F)
    (hbx : w.heap.size ≤ bx) (hbn : bx ∉ rfoot r T3 L3) (hbe : bx ∉ rowOf e.A) (hok : DS.Ok { S3 with l := ins PF.nm { e.f with nm := y.data.toList } S3.l }) (hL : L3.length ≤ 1099511627776) (hB : B ≤ w3.heap.size) (hq : q = e.f.b.length) :
    Calls Tryd.prog 42 #[.pointer (some ⟨r, 0, none⟩), .agg #[.string y, .slice e.A q e.c, .int .i64 (e.f.sy : Nat)]] (w3.setCell ⟨bx, 0, none⟩ (.string y)) fun e' w' => e' = .returned (.tuple #[]) ∧ RN w B r F { S3 with l := ins PF.nm { e.f with nm := y.data.toList } S3.l } w' := by
  subst hq
  have hk := Keep.setCell w3 ⟨bx, 0, none⟩ (.string y)
  have hR4 := hR.keep hk (fun x hx hm => hbn (by rw [List.mem_singleton.1 hm] at hx; exact hx))
  have hE4 := hE.keep hk (fun x hx hm => hbe (by rw [List.mem_singleton.1 hm] at hx; exact hx))
  have hP := rlay_any B r S3 T3 c3 L3 ⟨{ e.f with nm := y.data.toList }, e.A, e.c⟩ _ (rfoot r T3 L3 ++ rowOf e.A) hR4 ⟨hE4.rd, hE4.nc, hE4.ge, hE4.len⟩ hre hok hL (Nat.le_trans hB hk.size) (fun x hx => by simp [hx]) (fun x hx => by simp [hx])
  refine hP.mono fun e' w' ⟨h1, T', c', h2, h3, h4⟩ => ⟨h1, _, ⟨T', c', _, h2, rfl⟩, Stp.trans (cs := rfoot r T3 L3 ++ rowOf e.A) ⟨(stp_box hS hbx (.string y)).k, fun x hx => ?_⟩ h3⟩
  rcases List.mem_append.1 hx with hx | hx
  · exact hS.n x hx
  · exact .inl (heF x hx)
theorem ren_cells {w3 : World} {bx q : Nat} {e : EF} (h : Row w3 bx 74 (ecells e)) (hq : q = e.f.b.length) (y : ByteArray) :
    w3.cell? ⟨bx, 0, none⟩ = some (.string ⟨e.f.nm.toArray⟩) ∧ w3.frozen? ⟨bx, 0, none⟩ = false ∧ (w3.setCell ⟨bx, 0, none⟩ (.string y)).cell? ⟨bx, 0, none⟩ = some (.string y) ∧ (w3.setCell ⟨bx, 0, none⟩ (.string y)).cell? ⟨bx, 1, none⟩ = some (.slice e.A q e.c) ∧ (w3.setCell ⟨bx, 0, none⟩ (.string y)).cell? ⟨bx, 2, none⟩ = some (.int .i64 (e.f.sy : Nat)) := by
  subst hq
  have h2 := h.set 0 (.string y)
  exact ⟨h.cell (i := 0) (by simp [ecells]), h.fro 0, h2.cell (i := 0) (by simp [ecells]), h2.cell (i := 1) (by simp [ecells]), h2.cell (i := 2) (by simp [ecells])⟩
set_option maxHeartbeats 3200000 in
theorem rrename_ok (B r : Nat) (S : DS) (t c : Nat) (l1 l2 : List EF) (e : EF) (s y : ByteArray) (w : World) (h : RAt w B r S (some ⟨t, 0, none⟩) c (l1 ++ e :: l2)) (hL : (l1 ++ e :: l2).length ≤ 1099511627776) (hB : B ≤ w.heap.size)
    (hnm : nameOk y.data.toList = true) (ho : S.off = false) (hb : S.bud ≠ 0)
    (g1 : Dk.get S.l s.data.toList = some e.f) (g2 : e.f.nm = s.data.toList) (g3 : ∀ z ∈ l1, z.f.nm ≠ s.data.toList) (g5 : ∀ z ∈ l2, z.f.nm ≠ s.data.toList) (g4 : fndi S.l s.data.toList = (l1.length : Nat)) :
    Calls Tryd.prog 29 #[.pointer (some ⟨r, 0, none⟩), .string s, .string y] w fun e' w' => e' = .returned (.int .i64 0) ∧ RN w B r (rfoot r (some ⟨t, 0, none⟩) (l1 ++ e :: l2)) { (stepd S wrap64).2 with l := ins PF.nm { e.f with nm := y.data.toList } (Dk.del (Dk.del S.l s.data.toList) y.data.toList) } w' := by
  refine calls_hid fun G hG => ?_
  have hN := rnamed_any y w
  rw [hnm] at hN
  have c2 := h.c2
  rw [ho] at c2
  have hF := rfind_any B r S _ c _ s w h (by omega)
  rw [g4] at hF
  have hT := rstep_any B r S _ c _ w h
  rw [stepd_one hb] at hT
  have hsl := (stepd_l S wrap64).1
  have hl0 := h.ls
  rw [← hsl] at hl0 g1 hG
  have hok1 := stepd_ok h.ok wrap64
  have hor := ok_ren (x := s.data.toList) (y := y.data.toList) hok1 g1 hnm
  have hod := ok_del hok1 s.data.toList
  have hdl := split_del hl0 g3 g5 g2
  generalize (stepd S wrap64).2 = S1 at *
  have hg : ∀ w', RN w B r (rfoot r (some ⟨t, 0, none⟩) (l1 ++ e :: l2)) { S1 with l := ins PF.nm { e.f with nm := y.data.toList } (Dk.del (Dk.del S1.l s.data.toList) y.data.toList) } w' → G (.returned (.int .i64 0)) w' := fun w' hd => hG.out _ _ ⟨rfl, hd⟩
  replace hg := Lib.hid hg
  obtain ⟨n, hn⟩ : ∃ n, n = (l1 ++ e :: l2).length := ⟨_, rfl⟩
  obtain ⟨k, hk⟩ : ∃ k, k = l1.length := ⟨_, rfl⟩
  obtain ⟨q, hq⟩ : ∃ q, q = e.f.b.length := ⟨_, rfl⟩
  have hkn : k < n := by rw [hn, hk]; simp
  rw [← hk] at hF
  rw [← hn] at hL
  replace hn := Lib.hid hn
  replace hk := Lib.hid hk
  replace hq := Lib.hid hq
  replace hl0 := Lib.hid hl0
  replace hdl := Lib.hid hdl
  replace hor := Lib.hid hor
  replace hod := Lib.hid hod
  replace g2 := Lib.hid g2
  clear hG h g1 g3 g5 g4 hsl hnm ho hb hok1
  go_enter Tryd.func29, Tryd.ntmps29
  go_wp2_with (first
    | (go_at_call 39; (with_reducible refine hN.mono ?_); rintro e' w' ⟨rfl, rfl⟩)
    | (go_at_call 41; (with_reducible refine hF.mono ?_); rintro e' w' ⟨rfl, rfl⟩; clear hF)
    | (go_at_call 40; (with_reducible refine hT.mono ?_); rintro e' w1 ⟨rfl, hD1, hk1⟩; have v1 := hD1.c1; rw [← hn.out] at v1; obtain ⟨t', ht', _, _, d0, d1, d2, hfr⟩ := hD1.tab.at; injection ht' with ht'; injection ht' with ht' _ _; subst ht'; rw [← hk.out] at d0 d1 d2; rw [← hq.out] at d1; clear hfr; obtain ⟨wa, hwa⟩ : ∃ wa, wa = w1.alloc (.cells #[.string ⟨e.f.nm.toArray⟩, .slice e.A q e.c, .int .i64 (e.f.sy : Nat)] 74) := ⟨_, rfl⟩; have hxa : Ext w1 wa := (by rw [hwa]; exact ext_alloc _ _); have hbox : Row wa w1.heap.size 74 (ecells e) := (by rw [hwa, hq.out]; exact Row.alloc w1 (ecells e) _); have hDa := hD1.ext hxa; have hPd := rdrop_any B r S1 _ c l1 l2 e wa _ hDa (by rw [← hdl.out]; exact hod.out) (by rw [← hn.out]; exact hL) (Nat.le_trans hB (Nat.le_trans hk1.size hxa.size)) (fun _ h => h); rw [← hk.out] at hPd; replace hwa := Lib.hid hwa; replace hD1 := Lib.hid hD1; replace hDa := Lib.hid hDa; clear hT)
    | (go_at_call 44; rw [← hwa.out]; (with_reducible refine hPd.mono ?_); rintro e' w2 ⟨rfl, T2, c2', hR2, hS2, hk2⟩; clear hPd))
  have hE2 := ((hDa.out.tab.fl e (by simp)).keep hk2 fun x hx hm => hDa.out.ap (by rw [List.mem_singleton.1 hm] at hx; simp only [tfoot, List.mem_append, List.mem_flatMap]; exact .inr ⟨e, by simp, hx⟩))
  have hre : r ∉ rowOf e.A := fun hm => hDa.out.ap (by simp only [tfoot, List.mem_append, List.mem_flatMap]; exact .inr ⟨e, by simp, hm⟩)
  have hrl : r < w1.heap.size := (hD1.out.lt r (by simp [rfoot])).2
  have heF : ∀ x ∈ rowOf e.A, x ∈ rfoot r (some ⟨t, 0, none⟩) (l1 ++ e :: l2) := fun x hx => by simp only [rfoot, tfoot, List.mem_cons, List.mem_append, List.mem_flatMap]; exact .inr (.inr ⟨e, .inr (.inl rfl), hx⟩)
  have hbe : w1.heap.size ∉ rowOf e.A := fun hm => by have := ((hD1.out.tab.fl e (by simp)).ge _ hm).2; omega
  have hbn2 : w1.heap.size ∉ rfoot r T2 (l1 ++ l2) := by
    refine hS2.not (by have := congrArg (·.heap.size) hwa.out; simp at this; omega) fun hm => ?_
    have := (hD1.out.lt _ hm).2
    omega
  have hbox2 := box_cells hbox hk2 (by omega)
  have hS12 := (stp_r hk1).trans ((Stp.of_ext hxa).trans hS2)
  have hB2 : B ≤ w2.heap.size := Nat.le_trans hB hS12.k.size
  have hl12 : (l1 ++ l2).length < n := by rw [hn.out]; simp
  have hbx : w.heap.size ≤ w1.heap.size := hk1.size
  have hF2 := rfind_any B r _ _ c2' _ y w2 hR2 (by omega)
  rcases hR2.found y.data.toList with ⟨g1, g2', g3⟩ | ⟨m1, e2, m2, t2, hm12, hT2, g1, g2', g3, g5, g4⟩
  · have hde : Dk.del (Dk.del S1.l s.data.toList) y.data.toList = (l1 ++ l2).map EF.f := by
      rw [hdl.out]
      exact del_no fun z hz => by obtain ⟨u, hu, rfl⟩ := List.mem_map.1 hz; exact g3 u hu
    have hP := ren_last (q := q) y hR2 hS12 hE2 hre heF hbx hbn2 hbe (by rw [← hde]; exact hor.out) (by omega) hB2 hq.out
    obtain ⟨x0, x1, x2, x3, x4⟩ := ren_cells hbox2 hq.out y
    rw [g2'] at hF2
    replace hg := fun w' hd => hg.out w' (by rw [hde]; exact hd)
    replace hg := Lib.hid hg
    clear hS12 hbox2 hbn2 hbe heF hre hE2 hS2 hDa hD1 hR2 g1 g2' g3 hde hbox
    go_wp2_with (first
      | (go_at_call 41; (with_reducible refine hF2.mono ?_); rintro e' w' ⟨rfl, rfl⟩)
      | (go_at_call 42; (with_reducible refine hP.mono ?_); rintro e' w4 ⟨rfl, hd⟩))
    exact hg.out _ hd
  · subst hT2
    rw [hm12] at hR2 hS2 hbn2 hS12 hl12
    have hd2 : Dk.del ((l1 ++ l2).map EF.f) y.data.toList = (m1 ++ m2).map EF.f := split_del (S := { S1 with l := (l1 ++ l2).map EF.f }) (by rw [hm12]) g3 g5 g2'
    have hde : Dk.del (Dk.del S1.l s.data.toList) y.data.toList = (m1 ++ m2).map EF.f := by rw [hdl.out, hd2]
    have hod2 := ok_del hR2.ok y.data.toList
    have hPd2 := rdrop_any B r _ _ c2' m1 m2 e2 w2 _ hR2 (by rw [← hd2, hm12]; exact hod2) (by omega) hB2 (fun _ h => h)
    have hl3 : (m1 ++ m2).length ≤ (m1 ++ e2 :: m2).length := by simp
    obtain ⟨j, hj⟩ : ∃ j, j = m1.length := ⟨_, rfl⟩
    rw [← hj] at hPd2
    rw [g4, ← hj] at hF2
    have hor2 : DS.Ok { S1 with l := ins PF.nm { e.f with nm := y.data.toList } ((m1 ++ m2).map EF.f) } := by rw [← hde]; exact hor.out
    replace hg := fun w' hd => hg.out w' (by rw [hde]; exact hd)
    replace hg := Lib.hid hg
    replace hor2 := Lib.hid hor2
    replace hj := Lib.hid hj
    replace hbox2 := Lib.hid hbox2
    replace hE2 := Lib.hid hE2
    replace hS12 := Lib.hid hS12
    replace hre := Lib.hid hre
    replace heF := Lib.hid heF
    replace hbe := Lib.hid hbe
    replace hl12 := Lib.hid hl12
    replace hl3 := Lib.hid hl3
    have hbw2 : w1.heap.size < w2.heap.size := by
      have h1 := hk2.size
      have h2 := congrArg (·.heap.size) hwa.out
      simp at h2
      omega
    clear hbox hm12 hd2 hod2 hod hor hdl hR2 hS2 hDa hD1 g1 g2' g3 g5 g4 hde
    go_wp2_with (first
      | (go_at_call 41; (with_reducible refine hF2.mono ?_); rintro e' w' ⟨rfl, rfl⟩)
      | (go_at_call 44; (with_reducible refine hPd2.mono ?_); rintro e' w3 ⟨rfl, T3, c3, hR3, hS3, hk3⟩; have hE3 := hE2.out.keep hk3 (fun x hx hm => hre.out (by rw [List.mem_singleton.1 hm] at hx; exact hx)); have hbox3 := box_cells hbox2.out hk3 (by omega); have hbn3 := hS3.not hbw2 hbn2; have hP := ren_last (q := q) y hR3 (hS12.out.trans hS3) hE3 hre.out heF.out hbx hbn3 hbe.out hor2.out (by have := hl3.out; have := hl12.out; omega) (Nat.le_trans hB2 hk3.size) hq.out; obtain ⟨x0, x1, x2, x3, x4⟩ := ren_cells hbox3 hq.out y; replace hR3 := Lib.hid hR3; replace hbn3 := Lib.hid hbn3; replace hbox3 := Lib.hid hbox3)
      | (go_at_call 42; (with_reducible refine hP.mono ?_); rintro e' w4 ⟨rfl, hd⟩))
    exact hg.out _ hd
set_option maxHeartbeats 3200000 in
theorem rrename_any (B r : Nat) (S : DS) (T : Option Addr) (c : Nat) (L : List EF) (s y : ByteArray) (w : World) (h : RAt w B r S T c L) (hL : L.length ≤ 1099511627776) (hB : B ≤ w.heap.size) :
    Calls Tryd.prog 29 #[.pointer (some ⟨r, 0, none⟩), .string s, .string y] w fun e' w' => e' = .returned (.int .i64 (ren wrap64 S s.data.toList y.data.toList).1) ∧ RN w B r (rfoot r T L) (ren wrap64 S s.data.toList y.data.toList).2 w' := by
  have hN := rnamed_any y w
  have hF := rfind_any B r S T c L s w h (by omega)
  have c2 := h.c2
  rcases hnm : nameOk y.data.toList with _ | _
  · refine calls_hid fun G hG => ?_
    have hg : G (.returned (.int .i64 1)) w := hG.out _ _ (by
      have e : ren wrap64 S s.data.toList y.data.toList = (1, S) := by unfold ren; rw [if_pos hnm]
      rw [e]; exact ⟨rfl, RN.same h⟩)
    rw [hnm] at hN
    clear hG h
    go_enter Tryd.func29, Tryd.ntmps29
    go_wp2_with (first
      | (go_at_call 39; (with_reducible refine hN.mono ?_); rintro e' w' ⟨rfl, rfl⟩)
      | (go_at_call 41; (with_reducible refine hF.mono ?_); rintro e' w' ⟨rfl, rfl⟩))
    exact hg
  · have hnf : ¬ nameOk y.data.toList = false := by rw [hnm]; simp
    rcases ho : S.off with _ | _
    · rcases h.found s.data.toList with ⟨g1, g2, g3⟩ | ⟨l1, e, l2, t, rfl, rfl, g1, g2, g3, g5, g4⟩
      · refine calls_hid fun G hG => ?_
        have hg : G (.returned (.int .i64 9)) w := hG.out _ _ (by
          have e1 : fnd S s.data.toList = 9 := by unfold fnd; rw [ho]; simp [Dk.has, g1]
          have e : ren wrap64 S s.data.toList y.data.toList = (9, S) := by unfold ren; rw [if_neg hnf, e1]; rfl
          rw [e]; exact ⟨rfl, RN.same h⟩)
        rw [hnm] at hN
        rw [ho] at c2
        rw [g2] at hF
        clear hG h
        go_enter Tryd.func29, Tryd.ntmps29
        go_wp2_with (first
          | (go_at_call 39; (with_reducible refine hN.mono ?_); rintro e' w' ⟨rfl, rfl⟩)
          | (go_at_call 41; (with_reducible refine hF.mono ?_); rintro e' w' ⟨rfl, rfl⟩))
        exact hg
      · have e1 : fnd S s.data.toList = 0 := by unfold fnd; rw [ho]; simp [Dk.has, g1]
        by_cases hb : S.bud = 0
        · refine calls_hid fun G hG => ?_
          have hT := rstep_any B r S _ c _ w h
          rw [stepd_zero hb] at hT
          have hg : ∀ w', RN w B r (rfoot r (some ⟨t, 0, none⟩) (l1 ++ e :: l2)) (stepd S wrap64).2 w' → G (.returned (.int .i64 11)) w' := fun w' hd => hG.out _ _ (by
            have e : ren wrap64 S s.data.toList y.data.toList = (11, (stepd S wrap64).2) := by unfold ren; rw [if_neg hnf, if_neg (by simp [e1]), stepd_zero hb]; rfl
            rw [e]; exact ⟨rfl, hd⟩)
          replace hg := Lib.hid hg
          generalize (stepd S wrap64).2 = S1 at *
          rw [hnm] at hN
          rw [ho] at c2
          rw [g4] at hF
          clear hG h hb g1 g2 g3 g4 g5 ho e1 hnf
          go_enter Tryd.func29, Tryd.ntmps29
          go_wp2_with (first
            | (go_at_call 39; (with_reducible refine hN.mono ?_); rintro e' w' ⟨rfl, rfl⟩)
            | (go_at_call 41; (with_reducible refine hF.mono ?_); rintro e' w' ⟨rfl, rfl⟩)
            | (go_at_call 40; (with_reducible refine hT.mono ?_); rintro e' w1 ⟨rfl, hD1, hk1⟩))
          exact hg.out _ (RN.r hD1 hk1)
        · have e : ren wrap64 S s.data.toList y.data.toList = (0, { (stepd S wrap64).2 with l := ins PF.nm { e.f with nm := y.data.toList } (Dk.del (Dk.del S.l s.data.toList) y.data.toList) }) := by
            unfold ren
            rw [if_neg hnf, if_neg (by simp [e1]), stepd_one hb, g1]
            rfl
          rw [e]
          exact rrename_ok B r S t c l1 l2 _ s y w h hL hB hnm ho hb g1 g2 g3 g5 g4
    · refine calls_hid fun G hG => ?_
      have hg : G (.returned (.int .i64 11)) w := hG.out _ _ (by
        have e1 : fnd S s.data.toList = 11 := by unfold fnd; rw [ho]; rfl
        have e : ren wrap64 S s.data.toList y.data.toList = (11, S) := by unfold ren; rw [if_neg hnf, e1]; rfl
        rw [e]; exact ⟨rfl, RN.same h⟩)
      rw [hnm] at hN
      rw [ho] at c2
      clear hG h
      go_enter Tryd.func29, Tryd.ntmps29
      go_wp2_with (first
        | (go_at_call 39; (with_reducible refine hN.mono ?_); rintro e' w' ⟨rfl, rfl⟩)
        | (go_at_call 41; (with_reducible refine hF.mono ?_); rintro e' w' ⟨rfl, rfl⟩))
      exact hg
end Go.Proofs.YtkgnaabmcboffaaDoor
