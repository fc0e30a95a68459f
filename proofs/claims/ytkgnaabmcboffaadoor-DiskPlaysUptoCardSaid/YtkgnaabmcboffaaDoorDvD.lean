/-
  Walks of the answer's disk: sync, cut short, away.
-/
import Derived.Test.YtkgnaabmcboffaaDoorDvC
set_option linter.unusedSimpArgs false
set_option linter.unusedVariables false
namespace Go.Proofs.YtkgnaabmcboffaaDoor
open Go.RowKit Go.Cv Go.Cv.Dk
theorem RAt.c1 {w : World} {B r c : Nat} {S : DS} {T : Option Addr} {L : List EF} (h : RAt w B r S T c L) : w.cell? ⟨r, 1, none⟩ = some (.slice T L.length c) := by
  obtain ⟨q, hq, hr⟩ := h.row
  exact hr.cell (i := 1) (by simp)
theorem RAt.c2 {w : World} {B r c : Nat} {S : DS} {T : Option Addr} {L : List EF} (h : RAt w B r S T c L) : w.cell? ⟨r, 2, none⟩ = some (.bool S.off) := by
  obtain ⟨q, hq, hr⟩ := h.row
  exact hr.cell (i := 2) (by simp)
theorem RAt.c0 {w : World} {B r c : Nat} {S : DS} {T : Option Addr} {L : List EF} (h : RAt w B r S T c L) : w.cell? ⟨r, 0, none⟩ = some (.int .i64 S.room) := by
  obtain ⟨q, hq, hr⟩ := h.row
  exact hr.cell (i := 0) (by simp)
/-- A name is there, or it isn't. -/
theorem RAt.found {w : World} {B r c : Nat} {S : DS} {T : Option Addr} {L : List EF} (h : RAt w B r S T c L) (x : List UInt8) :
    (Dk.get S.l x = none ∧ fndi S.l x = -1 ∧ ∀ e ∈ L, e.f.nm ≠ x) ∨ ∃ l1 e l2 t, L = l1 ++ e :: l2 ∧ T = some ⟨t, 0, none⟩ ∧ Dk.get S.l x = some e.f ∧ e.f.nm = x ∧ (∀ z ∈ l1, z.f.nm ≠ x) ∧ (∀ z ∈ l2, z.f.nm ≠ x) ∧ fndi S.l x = (l1.length : Nat) := by
  rcases get_fndi (l := S.l) (x := x) with ⟨g1, g2, g3⟩ | ⟨l1, f, l2, gl, g1, g2, g3, g4⟩
  · exact .inl ⟨g1, g2, fun e he => g3 _ (by rw [h.ls]; exact List.mem_map.2 ⟨e, he, rfl⟩)⟩
  · obtain ⟨m1, y, m2, rfl, rfl, rfl, rfl⟩ := map_split (h.ls.symm.trans gl)
    obtain ⟨t, rfl, _⟩ := h.tab.at
    have hr := h.ok.ris
    rw [gl] at hr
    obtain ⟨h1, h2⟩ := ris_after hr
    rw [List.length_map] at g4
    exact .inr ⟨m1, y, m2, t, rfl, rfl, g1, g2, fun z hz => g3 _ (List.mem_map.2 ⟨z, hz, rfl⟩), fun z hz => by rw [← g2]; exact h2 _ (List.mem_map.2 ⟨z, hz, rfl⟩), g4⟩
theorem upd_E {S : DS} {l1 l2 : List EF} {e e' : EF} {x : List UInt8} {g : PF → PF} (hl : S.l = (l1 ++ e :: l2).map EF.f) (h1 : ∀ z ∈ l1, z.f.nm ≠ x) (h2 : ∀ z ∈ l2, z.f.nm ≠ x) (hn : e.f.nm = x) (hg : g e.f = e'.f) : Dk.upd S.l x g = (l1 ++ e' :: l2).map EF.f := by
  rw [hl, List.map_append, List.map_cons, upd_split g (fun z hz => by obtain ⟨y, hy, rfl⟩ := List.mem_map.1 hz; exact h1 y hy) (fun z hz => by obtain ⟨y, hy, rfl⟩ := List.mem_map.1 hz; exact h2 y hy) hn, hg, List.map_append, List.map_cons]
theorem ok_E {S : DS} (h : S.Ok) {l1 l2 : List EF} {e e' : EF} (hl : S.l = (l1 ++ e :: l2).map EF.f) (hn : e'.f.nm = e.f.nm) (hs : e'.f.sy ≤ e'.f.b.length) (hu : (used (l1.map EF.f) : Int) + e'.f.b.length + used (l2.map EF.f) ≤ S.room) : DS.Ok { S with l := (l1 ++ e' :: l2).map EF.f } := by
  have := ok_upd (f' := e'.f) h (l1 := l1.map EF.f) (l2 := l2.map EF.f) (f := e.f) (by rw [hl]; simp) hn hs hu
  simpa using this
/-- One file's cells were laid anew. -/
theorem RAt.tabbed_ {w w' : World} {B r c t : Nat} {S : DS} {l1 l2 : List EF} {e e' : EF} (h : RAt w B r S (some ⟨t, 0, none⟩) c (l1 ++ e :: l2)) (hk : Keep [t] w w') (hT : Tab w' B (some ⟨t, 0, none⟩) c (l1 ++ e' :: l2))
    (hA : ∀ x ∈ rowOf e'.A, x ∈ rowOf e.A ∨ w.heap.size ≤ x) (hok : DS.Ok { S with l := (l1 ++ e' :: l2).map EF.f }) :
    RAt w' B r { S with l := (l1 ++ e' :: l2).map EF.f } (some ⟨t, 0, none⟩) c (l1 ++ e' :: l2) ∧ Stp (rfoot r (some ⟨t, 0, none⟩) (l1 ++ e :: l2)) (rfoot r (some ⟨t, 0, none⟩) (l1 ++ e' :: l2)) w w' := by
  obtain ⟨q, hq, hr⟩ := h.row
  have hrt : r ≠ t := fun e => h.ap (by simp [tfoot, rowOf, e])
  have hlen : (l1 ++ e' :: l2).length = (l1 ++ e :: l2).length := by simp
  have hsub : ∀ x ∈ rfoot r (some ⟨t, 0, none⟩) (l1 ++ e' :: l2), x ∈ rfoot r (some ⟨t, 0, none⟩) (l1 ++ e :: l2) ∨ w.heap.size ≤ x := fun x hx => by
    simp only [rfoot, tfoot, List.mem_cons, List.mem_append, List.mem_flatMap] at hx ⊢
    rcases hx with rfl | hx | ⟨z, hz, hx⟩
    · exact .inl (.inl rfl)
    · exact .inl (.inr (.inl hx))
    · rcases hz with hz | rfl | hz
      · exact .inl (.inr (.inr ⟨z, .inl hz, hx⟩))
      · rcases hA x hx with h1 | h1
        · exact .inl (.inr (.inr ⟨e, .inr (.inl rfl), h1⟩))
        · exact .inr h1
      · exact .inl (.inr (.inr ⟨z, .inr (.inr hz), hx⟩))
  refine ⟨⟨⟨q, hq, ?_⟩, hT, rfl, fun hm => ?_, h.ge, hok⟩, hk.mono (fun x hx => by rw [List.mem_singleton.1 hx]; simp [rfoot, tfoot, rowOf]), hsub⟩
  · rw [hlen]
    exact hr.keep hk (by simpa using hrt)
  · simp only [tfoot, List.mem_append, List.mem_flatMap] at hm
    rcases hm with hm | ⟨z, hz, hm⟩
    · simp [rowOf] at hm; exact hrt hm
    · rcases hz with hz | hz
      · exact h.ap (by simp only [tfoot, List.mem_append, List.mem_flatMap]; exact .inr ⟨z, .inl hz, hm⟩)
      · rcases List.mem_cons.1 hz with rfl | hz
        · rcases hA _ hm with h1 | h1
          · exact h.ap (by simp only [tfoot, List.mem_append, List.mem_flatMap]; exact .inr ⟨e, .inr (by simp), h1⟩)
          · have := hr.lt; omega
        · exact h.ap (by simp only [tfoot, List.mem_append, List.mem_flatMap]; exact .inr ⟨z, .inr (by simp [hz]), hm⟩)
theorem RAt.tabbed {w w' : World} {B r c t : Nat} {S : DS} {l1 l2 : List EF} {e e' : EF} (h : RAt w B r S (some ⟨t, 0, none⟩) c (l1 ++ e :: l2)) (hk : Keep [t] w w') (hT : Tab w' B (some ⟨t, 0, none⟩) c (l1 ++ e' :: l2))
    (hA : ∀ x ∈ rowOf e'.A, x ∈ rowOf e.A ∨ w.heap.size ≤ x) (hok : DS.Ok { S with l := (l1 ++ e' :: l2).map EF.f }) :
    RN w B r (rfoot r (some ⟨t, 0, none⟩) (l1 ++ e :: l2)) { S with l := (l1 ++ e' :: l2).map EF.f } w' := by
  have := h.tabbed_ hk hT hA hok
  exact ⟨_, ⟨_, c, _, this.1, rfl⟩, this.2⟩
theorem RN.same {w : World} {B r c : Nat} {S : DS} {T : Option Addr} {L : List EF} (h : RAt w B r S T c L) : RN w B r (rfoot r T L) S w := ⟨_, ⟨T, c, L, h, rfl⟩, Stp.refl _ _⟩
theorem RN.r {w w' : World} {B r c : Nat} {S : DS} {T : Option Addr} {L : List EF} (h : RAt w' B r S T c L) (hk : Keep [r] w w') : RN w B r (rfoot r T L) S w' := ⟨_, ⟨T, c, L, h, rfl⟩, hk.mono (fun x hx => by rw [List.mem_singleton.1 hx]; simp [rfoot]), fun _ hx => .inl hx⟩
theorem RN.then {w w1 w2 : World} {B r : Nat} {bs cs : List Nat} {S : DS} (h : Stp bs cs w w1) (k : RN w1 B r cs S w2) : RN w B r bs S w2 := by
  obtain ⟨ds, h1, h2⟩ := k
  exact ⟨ds, h1, h.trans h2⟩
theorem stp_r {w w' : World} {r : Nat} {T : Option Addr} {L : List EF} (hk : Keep [r] w w') : Stp (rfoot r T L) (rfoot r T L) w w' := ⟨hk.mono (fun x hx => by rw [List.mem_singleton.1 hx]; simp [rfoot]), fun _ hx => .inl hx⟩
theorem RN.drew {w w' : World} {B r : Nat} {bs : List Nat} {S : DS} (h : RN w B r bs S w') : RN w B r bs S w'.drew := by
  obtain ⟨cs, h1, h2⟩ := h
  exact ⟨cs, h1.ext (ext_drew w'), h2.ext (ext_drew w')⟩
theorem used_E {S : DS} (h : S.Ok) {l1 l2 : List EF} {e : EF} (hl : S.l = (l1 ++ e :: l2).map EF.f) : (used (l1.map EF.f) : Int) + e.f.b.length + used (l2.map EF.f) ≤ S.room := by
  have := h.u
  rw [hl, List.map_append, used_app, List.map_cons, used_cons] at this
  omega
set_option maxHeartbeats 3200000 in
theorem rsync_any (B r : Nat) (S : DS) (T : Option Addr) (c : Nat) (L : List EF) (s : ByteArray) (w : World) (h : RAt w B r S T c L) (hL : L.length ≤ 1099511627776) (hB : B ≤ w.heap.size) :
    Calls Tryd.prog 25 #[.pointer (some ⟨r, 0, none⟩), .string s] w fun e w' => e = .returned (.int .i64 (syn wrap64 S s.data.toList).1) ∧ RN w B r (rfoot r T L) (syn wrap64 S s.data.toList).2 w' := by
  refine calls_hid fun G hG => ?_
  have hF := rfind_any B r S T c L s w h (by omega)
  have c2 := h.c2
  have c1 := h.c1
  rcases ho : S.off with _ | _
  · rw [ho] at c2
    rcases h.found s.data.toList with ⟨g1, g2, g3⟩ | ⟨l1, e, l2, t, rfl, rfl, g1, g2, g3, g5, g4⟩
    · have hg : G (.returned (.int .i64 9)) w := hG.out _ _ (by
        have e1 : fnd S s.data.toList = 9 := by unfold fnd; rw [ho]; simp [Dk.has, g1]
        have e : syn wrap64 S s.data.toList = (9, S) := by unfold syn; rw [e1]; rfl
        rw [e]; exact ⟨rfl, RN.same h⟩)
      rw [g2] at hF
      clear hG h c1
      go_enter Tryd.func25, Tryd.ntmps25
      go_wp2_with (go_at_call 41; (with_reducible refine hF.mono ?_); rintro e' w' ⟨rfl, rfl⟩)
      exact hg
    · have e1 : fnd S s.data.toList = 0 := by unfold fnd; rw [ho]; simp [Dk.has, g1]
      have hT := rstep_any B r S _ c _ w h
      rw [g4] at hF
      have hkn : l1.length < (l1 ++ e :: l2).length := by simp
      obtain ⟨n, hn⟩ : ∃ n, n = (l1 ++ e :: l2).length := ⟨_, rfl⟩
      obtain ⟨k, hk⟩ : ∃ k, k = l1.length := ⟨_, rfl⟩
      rw [← hn, ← hk] at hkn
      rw [← hk] at hF
      rw [← hn] at hL c1
      replace hn := Lib.hid hn
      replace hk := Lib.hid hk
      by_cases hb : S.bud = 0
      · rw [stepd_zero hb] at hT
        have hg : ∀ w', RN w B r (rfoot r (some ⟨t, 0, none⟩) (l1 ++ e :: l2)) (stepd S wrap64).2 w' → G (.returned (.int .i64 11)) w' := fun w' hd => hG.out _ _ (by
          have e : syn wrap64 S s.data.toList = (11, (stepd S wrap64).2) := by unfold syn; rw [if_neg (by simp [e1])]; rw [stepd_zero hb]; rfl
          rw [e]; exact ⟨rfl, hd⟩)
        replace hg := Lib.hid hg
        generalize (stepd S wrap64).2 = S1 at *
        clear hG h hb g1 g2 g3 g4 g5 ho e1
        go_enter Tryd.func25, Tryd.ntmps25
        go_wp2_with (first
          | (go_at_call 41; (with_reducible refine hF.mono ?_); rintro e' w' ⟨rfl, rfl⟩)
          | (go_at_call 40; (with_reducible refine hT.mono ?_); rintro e' w1 ⟨rfl, hD1, hk1⟩))
        exact hg.out _ (RN.r hD1 hk1)
      · rw [stepd_one hb] at hT
        have hul : Dk.upd S.l s.data.toList (fun f => { f with sy := f.b.length }) = (l1 ++ ⟨{ e.f with sy := e.f.b.length }, e.A, e.c⟩ :: l2).map EF.f := upd_E h.ls g3 g5 g2 rfl
        have hg : ∀ w', RN w B r (rfoot r (some ⟨t, 0, none⟩) (l1 ++ e :: l2)) { (stepd S wrap64).2 with l := (l1 ++ ⟨{ e.f with sy := e.f.b.length }, e.A, e.c⟩ :: l2).map EF.f } w' → G (.returned (.int .i64 0)) w' := fun w' hd => hG.out _ _ (by
          have e : syn wrap64 S s.data.toList = (0, { (stepd S wrap64).2 with l := Dk.upd S.l s.data.toList fun f => { f with sy := f.b.length } }) := by unfold syn; rw [if_neg (by simp [e1]), stepd_one hb]; rfl
          rw [e, hul]; exact ⟨rfl, hd⟩)
        replace hg := Lib.hid hg
        generalize (stepd S wrap64).2 = S1 at *
        clear hG h hb g1 g2 g3 g4 g5 ho e1 hul
        go_enter Tryd.func25, Tryd.ntmps25
        go_wp2_with (first
          | (go_at_call 41; (with_reducible refine hF.mono ?_); rintro e' w' ⟨rfl, rfl⟩)
          | (go_at_call 40; (with_reducible refine hT.mono ?_); rintro e' w1 ⟨rfl, hD1, hk1⟩; have v1 := hD1.c1; rw [← hn.out] at v1; obtain ⟨t', ht', _, _, d0, d1, d2, hfr⟩ := hD1.tab.at; injection ht' with ht'; injection ht' with ht' _ _; subst ht'; rw [← hk.out] at d0 d1 d2; have hfr2 := hfr (k * 3 + 2); replace hD1 := Lib.hid hD1; clear hfr))
        go_region
        go_wp2
        have hE := hD1.out.tab.fl e (by simp)
        have hA := hD1.out.tab.ap e (by simp)
        have ht := hD1.out.tab.set (e' := ⟨{ e.f with sy := e.f.b.length }, e.A, e.c⟩) 2 (by omega) (.int .i64 (e.f.b.length : Nat)) rfl ⟨hE.rd, hE.nc, hE.ge, hE.len⟩ (fun hm => hA _ hm (by simp [rowOf]))
        rw [← hk.out] at ht
        have := hD1.out.tabbed (Keep.setCell w1 ⟨t, k * 3 + 2, none⟩ _) ht (fun x hx => .inl hx) (ok_E (e := e) hD1.out.ok hD1.out.ls rfl (Nat.le_refl _) (used_E (e := e) hD1.out.ok hD1.out.ls))
        exact hg.out _ (RN.then (stp_r hk1) this).drew
  · rw [ho] at c2
    have hg : G (.returned (.int .i64 11)) w := hG.out _ _ (by
      have e1 : fnd S s.data.toList = 11 := by unfold fnd; rw [ho]; rfl
      have e : syn wrap64 S s.data.toList = (11, S) := by unfold syn; rw [e1]; rfl
      rw [e]; exact ⟨rfl, RN.same h⟩)
    clear hG h c1
    go_enter Tryd.func25, Tryd.ntmps25
    go_wp2_with (go_at_call 41; (with_reducible refine hF.mono ?_); rintro e' w' ⟨rfl, rfl⟩)
    exact hg
set_option maxHeartbeats 3200000 in
theorem rremove_any (B r : Nat) (S : DS) (T : Option Addr) (c : Nat) (L : List EF) (s : ByteArray) (w : World) (h : RAt w B r S T c L) (hL : L.length ≤ 1099511627776) (hB : B ≤ w.heap.size) :
    Calls Tryd.prog 31 #[.pointer (some ⟨r, 0, none⟩), .string s] w fun e w' => e = .returned (.int .i64 (rem wrap64 S s.data.toList).1) ∧ RN w B r (rfoot r T L) (rem wrap64 S s.data.toList).2 w' := by
  refine calls_hid fun G hG => ?_
  have hF := rfind_any B r S T c L s w h (by omega)
  have c2 := h.c2
  have c1 := h.c1
  rcases ho : S.off with _ | _
  · rw [ho] at c2
    rcases h.found s.data.toList with ⟨g1, g2, g3⟩ | ⟨l1, e, l2, t, rfl, rfl, g1, g2, g3, g5, g4⟩
    · have hg : G (.returned (.int .i64 9)) w := hG.out _ _ (by
        have e1 : fnd S s.data.toList = 9 := by unfold fnd; rw [ho]; simp [Dk.has, g1]
        have e : rem wrap64 S s.data.toList = (9, S) := by unfold rem; rw [e1]; rfl
        rw [e]; exact ⟨rfl, RN.same h⟩)
      rw [g2] at hF
      clear hG h c1
      go_enter Tryd.func31, Tryd.ntmps31
      go_wp2_with (go_at_call 41; (with_reducible refine hF.mono ?_); rintro e' w' ⟨rfl, rfl⟩)
      exact hg
    · have e1 : fnd S s.data.toList = 0 := by unfold fnd; rw [ho]; simp [Dk.has, g1]
      have hT := rstep_any B r S _ c _ w h
      rw [g4] at hF
      have hkn : l1.length < (l1 ++ e :: l2).length := by simp
      obtain ⟨n, hn⟩ : ∃ n, n = (l1 ++ e :: l2).length := ⟨_, rfl⟩
      obtain ⟨k, hk⟩ : ∃ k, k = l1.length := ⟨_, rfl⟩
      rw [← hn, ← hk] at hkn
      rw [← hk] at hF
      rw [← hn] at hL c1
      replace hn := Lib.hid hn
      replace hk := Lib.hid hk
      by_cases hb : S.bud = 0
      · rw [stepd_zero hb] at hT
        have hg : ∀ w', RN w B r (rfoot r (some ⟨t, 0, none⟩) (l1 ++ e :: l2)) (stepd S wrap64).2 w' → G (.returned (.int .i64 11)) w' := fun w' hd => hG.out _ _ (by
          have e : rem wrap64 S s.data.toList = (11, (stepd S wrap64).2) := by unfold rem; rw [if_neg (by simp [e1])]; rw [stepd_zero hb]; rfl
          rw [e]; exact ⟨rfl, hd⟩)
        replace hg := Lib.hid hg
        generalize (stepd S wrap64).2 = S1 at *
        clear hG h hb g1 g2 g3 g4 g5 ho e1
        go_enter Tryd.func31, Tryd.ntmps31
        go_wp2_with (first
          | (go_at_call 41; (with_reducible refine hF.mono ?_); rintro e' w' ⟨rfl, rfl⟩)
          | (go_at_call 40; (with_reducible refine hT.mono ?_); rintro e' w1 ⟨rfl, hD1, hk1⟩))
        exact hg.out _ (RN.r hD1 hk1)
      · rw [stepd_one hb] at hT
        have hul : Dk.del S.l s.data.toList = (l1 ++ l2).map EF.f := by
          rw [h.ls, List.map_append, List.map_cons, del_split (fun z hz => by obtain ⟨y, hy, rfl⟩ := List.mem_map.1 hz; exact g3 y hy) (fun z hz => by obtain ⟨y, hy, rfl⟩ := List.mem_map.1 hz; exact g5 y hy) g2, List.map_append]
        have hg : ∀ w', RN w B r (rfoot r (some ⟨t, 0, none⟩) (l1 ++ e :: l2)) { (stepd S wrap64).2 with l := (l1 ++ l2).map EF.f } w' → G (.returned (.int .i64 0)) w' := fun w' hd => hG.out _ _ (by
          have e : rem wrap64 S s.data.toList = (0, { (stepd S wrap64).2 with l := Dk.del S.l s.data.toList }) := by unfold rem; rw [if_neg (by simp [e1]), stepd_one hb]; rfl
          rw [e, hul]; exact ⟨rfl, hd⟩)
        replace hg := Lib.hid hg
        have hod : DS.Ok { (stepd S wrap64).2 with l := (l1 ++ l2).map EF.f } := by
          have := ok_del (stepd_ok h.ok wrap64) s.data.toList
          rw [(stepd_l S wrap64).1, hul] at this
          exact this
        generalize (stepd S wrap64).2 = S1 at *
        clear hG h hb g1 g2 g3 g4 g5 ho e1 hul
        go_enter Tryd.func31, Tryd.ntmps31
        go_wp2_with (first
          | (go_at_call 41; (with_reducible refine hF.mono ?_); rintro e' w' ⟨rfl, rfl⟩)
          | (go_at_call 40; (with_reducible refine hT.mono ?_); rintro e' w1 ⟨rfl, hD1, hk1⟩; have v1 := hD1.c1; rw [← hn.out] at v1; obtain ⟨t', ht', _, _, d0, d1, d2, hfr⟩ := hD1.tab.at; injection ht' with ht'; injection ht' with ht' _ _; subst ht'; rw [← hk.out] at d0 d1 d2; have hP := rdrop_any B r S1 _ c l1 l2 e w1 _ hD1 hod (by rw [← hn.out]; exact hL) (Nat.le_trans hB hk1.size) (fun _ h => h); rw [← hk.out] at hP; replace hD1 := Lib.hid hD1; clear hfr)
          | (go_at_call 44; (with_reducible refine hP.mono ?_); rintro e' w2 ⟨rfl, T2, c2', hR2, hS2, _⟩))
        exact hg.out _ (RN.then (stp_r hk1) ⟨_, ⟨_, _, _, hR2, rfl⟩, hS2⟩)
  · rw [ho] at c2
    have hg : G (.returned (.int .i64 11)) w := hG.out _ _ (by
      have e1 : fnd S s.data.toList = 11 := by unfold fnd; rw [ho]; rfl
      have e : rem wrap64 S s.data.toList = (11, S) := by unfold rem; rw [e1]; rfl
      rw [e]; exact ⟨rfl, RN.same h⟩)
    clear hG h c1
    go_enter Tryd.func31, Tryd.ntmps31
    go_wp2_with (go_at_call 41; (with_reducible refine hF.mono ?_); rintro e' w' ⟨rfl, rfl⟩)
    exact hg
set_option maxHeartbeats 3200000 in
theorem rtrunc_any (B r : Nat) (S : DS) (T : Option Addr) (c : Nat) (L : List EF) (s : ByteArray) (z0 : Int) (w : World) (h : RAt w B r S T c L) (hL : L.length ≤ 1099511627776) (hB : B ≤ w.heap.size) (hz0 : z0 ≤ 9223372036854775807) :
    Calls Tryd.prog 27 #[.pointer (some ⟨r, 0, none⟩), .string s, .int .i64 z0] w fun e w' => e = .returned (.int .i64 (trunc wrap64 S s.data.toList z0).1) ∧ RN w B r (rfoot r T L) (trunc wrap64 S s.data.toList z0).2 w' := by
  refine calls_hid fun G hG => ?_
  have hF := rfind_any B r S T c L s w h (by omega)
  have c2 := h.c2
  have c1 := h.c1
  rcases ho : S.off with _ | _
  · rw [ho] at c2
    rcases h.found s.data.toList with ⟨g1, g2, g3⟩ | ⟨l1, e, l2, t, rfl, rfl, g1, g2, g3, g5, g4⟩
    · have hg : G (.returned (.int .i64 9)) w := hG.out _ _ (by
        have e1 : fnd S s.data.toList = 9 := by unfold fnd; rw [ho]; simp [Dk.has, g1]
        have e : trunc wrap64 S s.data.toList z0 = (9, S) := by unfold trunc; rw [e1]; rfl
        rw [e]; exact ⟨rfl, RN.same h⟩)
      rw [g2] at hF
      clear hG h c1
      go_enter Tryd.func27, Tryd.ntmps27
      go_wp2_with (go_at_call 41; (with_reducible refine hF.mono ?_); rintro e' w' ⟨rfl, rfl⟩)
      exact hg
    · have e1 : fnd S s.data.toList = 0 := by unfold fnd; rw [ho]; simp [Dk.has, g1]
      have hT := rstep_any B r S _ c _ w h
      rw [g4] at hF
      have hkn : l1.length < (l1 ++ e :: l2).length := by simp
      obtain ⟨n, hn⟩ : ∃ n, n = (l1 ++ e :: l2).length := ⟨_, rfl⟩
      obtain ⟨k, hk⟩ : ∃ k, k = l1.length := ⟨_, rfl⟩
      rw [← hn, ← hk] at hkn
      rw [← hk] at hF
      rw [← hn] at hL c1
      replace hn := Lib.hid hn
      replace hk := Lib.hid hk
      have hct : cont S s.data.toList = e.f.b := by unfold cont; rw [g1]
      have hnc := (h.tab.fl e (by simp)).nc
      obtain ⟨t', ht', _, _, _, d1, _, _⟩ := h.tab.at
      injection ht' with ht'
      injection ht' with ht' _ _
      subst ht'
      rw [← hk.out] at d1
      by_cases hbad : z0 < 0 ∨ z0 > (e.f.b.length : Nat)
      · have hg : G (.returned (.int .i64 1)) w := hG.out _ _ (by
          have e : trunc wrap64 S s.data.toList z0 = (1, S) := by unfold trunc; rw [if_neg (by simp [e1]), hct, if_pos hbad]
          rw [e]; exact ⟨rfl, RN.same h⟩)
        generalize e.f.b.length = q at *
        by_cases h0 : z0 < 0
        · have hd : decide (z0 < 0) = true := decide_eq_true h0
          clear hG h g1 g2 g3 g4 g5 hbad hT hct
          go_enter Tryd.func27, Tryd.ntmps27
          go_wp2_with (go_at_call 41; (with_reducible refine hF.mono ?_); rintro e' w' ⟨rfl, rfl⟩)
          exact hg
        · have hd : decide (z0 < 0) = false := decide_eq_false h0
          have hd2 : decide ((q : Int) < z0) = true := decide_eq_true (by omega)
          clear hG h g1 g2 g3 g4 g5 hbad hT hct
          go_enter Tryd.func27, Tryd.ntmps27
          go_wp2_with (go_at_call 41; (with_reducible refine hF.mono ?_); rintro e' w' ⟨rfl, rfl⟩)
          exact hg
      obtain ⟨z, rfl⟩ : ∃ z : Nat, z0 = z := ⟨z0.toNat, by omega⟩
      have hzq : z ≤ e.f.b.length := by omega
      have hbad2 := Lib.hid hbad
      have hd : decide ((z : Int) < 0) = false := decide_eq_false (by omega)
      have hd2 : decide (((e.f.b.length : Nat) : Int) < (z : Int)) = false := decide_eq_false (by omega)
      have hzc : z ≤ e.c := by omega
      clear hbad
      by_cases hb : S.bud = 0
      · rw [stepd_zero hb] at hT
        have hg : ∀ w', RN w B r (rfoot r (some ⟨t, 0, none⟩) (l1 ++ e :: l2)) (stepd S wrap64).2 w' → G (.returned (.int .i64 11)) w' := fun w' hd => hG.out _ _ (by
          have e : trunc wrap64 S s.data.toList z = (11, (stepd S wrap64).2) := by unfold trunc; rw [if_neg (by simp [e1]), hct, if_neg hbad2.out]; rw [stepd_zero hb]; rfl
          rw [e]; exact ⟨rfl, hd⟩)
        replace hg := Lib.hid hg
        generalize (stepd S wrap64).2 = S1 at *
        clear hG h hb g1 g2 g3 g4 g5 ho e1
        go_enter Tryd.func27, Tryd.ntmps27
        go_wp2_with (first
          | (go_at_call 41; (with_reducible refine hF.mono ?_); rintro e' w' ⟨rfl, rfl⟩)
          | (go_at_call 40; (with_reducible refine hT.mono ?_); rintro e' w1 ⟨rfl, hD1, hk1⟩))
        exact hg.out _ (RN.r hD1 hk1)
      · rw [stepd_one hb] at hT
        have hul : Dk.upd S.l s.data.toList (fun f => { f with b := f.b.take z, sy := z }) = (l1 ++ ⟨{ e.f with b := e.f.b.take z, sy := z }, e.A, e.c⟩ :: l2).map EF.f := upd_E h.ls g3 g5 g2 rfl
        have hg : ∀ w', RN w B r (rfoot r (some ⟨t, 0, none⟩) (l1 ++ e :: l2)) { (stepd S wrap64).2 with l := (l1 ++ ⟨{ e.f with b := e.f.b.take z, sy := z }, e.A, e.c⟩ :: l2).map EF.f } w' → G (.returned (.int .i64 0)) w' := fun w' hd => hG.out _ _ (by
          have e : trunc wrap64 S s.data.toList z = (0, { (stepd S wrap64).2 with l := Dk.upd S.l s.data.toList fun f => { f with b := f.b.take z, sy := z } }) := by
            unfold trunc
            rw [if_neg (by simp [e1]), hct, if_neg hbad2.out, stepd_one hb]
            rfl
          rw [e, hul]; exact ⟨rfl, hd⟩)
        replace hg := Lib.hid hg
        generalize (stepd S wrap64).2 = S1 at *
        clear hG h hb g1 g2 g3 g4 g5 ho e1 hul hct hbad2
        obtain ⟨q, hq⟩ : ∃ q, q = e.f.b.length := ⟨_, rfl⟩
        rw [← hq] at hd2 d1 hzq hnc
        replace hq := Lib.hid hq
        have hzi : (z : Int) ≤ (q : Int) := by omega
        have hzci : (z : Int) ≤ (e.c : Int) := by omega
        go_enter Tryd.func27, Tryd.ntmps27
        go_wp2_with (first
          | (go_at_call 41; (with_reducible refine hF.mono ?_); rintro e' w' ⟨rfl, rfl⟩)
          | (go_at_call 40; (with_reducible refine hT.mono ?_); rintro e' w1 ⟨rfl, hD1, hk1⟩; have v1 := hD1.c1; rw [← hn.out] at v1; obtain ⟨t', ht', _, _, d0, d1, d2, hfr⟩ := hD1.tab.at; injection ht' with ht'; injection ht' with ht' _ _; subst ht'; rw [← hk.out] at d0 d1 d2; have hfr1 := hfr (k * 3 + 1); have hfr2 := hfr (k * 3 + 2); rw [← hq.out] at d1; replace hD1 := Lib.hid hD1; clear hfr))
        go_region
        have hE := hD1.out.tab.fl e (by simp)
        have hA := hD1.out.tab.ap e (by simp)
        have hlz : (e.f.b.take z).length = z := by rw [List.length_take]; have := hq.out; omega
        have hrt : r ∉ [t] := fun hm => hD1.out.ap (by rw [List.mem_singleton.1 hm]; simp [tfoot, rowOf])
        have hE1 : EAt w1 B ⟨{ e.f with b := e.f.b.take z }, e.A, e.c⟩ := ⟨by rw [List.map_take]; exact hE.rd.take z, by rw [hlz]; exact hzc, hE.ge, by have := hE.len; rw [hlz]; have := hq.out; omega⟩
        have ht1 := hD1.out.tab.set (e' := ⟨{ e.f with b := e.f.b.take z }, e.A, e.c⟩) 1 (by omega) (.slice e.A z e.c) (by simp [ecells, hlz]) hE1 (fun hm => hA _ hm (by simp [rowOf]))
        rw [← hk.out] at ht1
        replace ht1 := ht1.ext (ext_drew _)
        have hk3 := (Keep.setCell w1 ⟨t, k * 3 + 1, none⟩ (.slice e.A z e.c)).ext (ext_drew _)
        generalize (w1.setCell ⟨t, k * 3 + 1, none⟩ (.slice e.A z e.c)).drew = w2 at *
        have v2 := hk3.cell v1 hrt
        obtain ⟨t', ht', _, _, _, _, d2', hfr⟩ := ht1.at
        injection ht' with ht'
        injection ht' with ht' _ _
        subst ht'
        rw [← hk.out] at d2'
        have hfr3 := hfr (k * 3 + 2)
        replace ht1 := Lib.hid ht1
        replace hE1 := Lib.hid hE1
        replace hk3 := Lib.hid hk3
        replace hlz := Lib.hid hlz
        clear hfr hE hfr1 hfr2 d1 d2 d0 v1
        go_wp2
        have ht2 := ht1.out.set (e' := ⟨{ e.f with b := e.f.b.take z, sy := z }, e.A, e.c⟩) 2 (by omega) (.int .i64 (z : Nat)) (by simp [ecells]) ((hE1.out.keep hk3.out (fun x hx hm => hA x hx (by simpa [rowOf] using hm))).1 |> fun hr => ⟨hr, hE1.out.nc, fun x hx => ⟨(hE1.out.ge x hx).1, Nat.lt_of_lt_of_le (hE1.out.ge x hx).2 hk3.out.size⟩, hE1.out.len⟩) (fun hm => hA _ hm (by simp [rowOf]))
        rw [← hk.out] at ht2
        have := hD1.out.tabbed (hk3.out.same (Keep.setCell w2 ⟨t, k * 3 + 2, none⟩ _)) ht2 (fun x hx => .inl hx) (ok_E (e := e) hD1.out.ok hD1.out.ls rfl (by show z ≤ (e.f.b.take z).length; rw [hlz.out]; exact Nat.le_refl _) (by
          have := used_E (e := e) hD1.out.ok hD1.out.ls
          show (used (l1.map EF.f) : Int) + (e.f.b.take z).length + used (l2.map EF.f) ≤ S1.room
          rw [hlz.out]; have := hq.out; omega))
        exact hg.out _ (RN.then (stp_r hk1) this)
  · rw [ho] at c2
    have hg : G (.returned (.int .i64 11)) w := hG.out _ _ (by
      have e1 : fnd S s.data.toList = 11 := by unfold fnd; rw [ho]; rfl
      have e : trunc wrap64 S s.data.toList z0 = (11, S) := by unfold trunc; rw [e1]; rfl
      rw [e]; exact ⟨rfl, RN.same h⟩)
    clear hG h c1
    go_enter Tryd.func27, Tryd.ntmps27
    go_wp2_with (go_at_call 41; (with_reducible refine hF.mono ?_); rintro e' w' ⟨rfl, rfl⟩)
    exact hg
end Go.Proofs.YtkgnaabmcboffaaDoor
