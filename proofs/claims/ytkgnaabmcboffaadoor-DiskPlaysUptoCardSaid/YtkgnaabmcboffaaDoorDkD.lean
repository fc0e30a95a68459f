/-
  Walks of the disk: sync and append.
-/
import Derived.Test.YtkgnaabmcboffaaDoorDkC
import Derived.Test.YtkgnaabmcboffaaDoorTail
set_option linter.unusedSimpArgs false
set_option linter.unusedVariables false
namespace Go.Proofs.YtkgnaabmcboffaaDoor
open Go.RowKit Go.Cv Go.Cv.Dk
/-- What a request leaves. -/
def Done (w : World) (B d mb : Nat) (L : List GF) (S' : DS) (w' : World) : Prop := ∃ L', DiskAt w' B d mb S' L' ∧ Stp (foot d mb L) (foot d mb L') w w' ∧ L'.length ≤ L.length + 1
theorem Done.same {w : World} {B d mb : Nat} {L : List GF} {S : DS} (h : DiskAt w B d mb S L) : Done w B d mb L S w := ⟨L, h, Stp.refl _ _, by omega⟩
theorem Done.d {w w' : World} {B d mb : Nat} {L : List GF} {S : DS} (h : DiskAt w' B d mb S L) (hk : Keep [d] w w') : Done w B d mb L S w' := ⟨L, h, ⟨hk.mono (by simp [foot]), fun x hx => .inl hx⟩, by omega⟩
theorem Done.after {w w1 w' : World} {B d mb : Nat} {L L1 : List GF} {S : DS} (hs : Stp (foot d mb L) (foot d mb L1) w w1) (hl : L1.length ≤ L.length) (h : Done w1 B d mb L1 S w') : Done w B d mb L S w' := by
  obtain ⟨L', hD, hS, hll⟩ := h
  exact ⟨L', hD, hs.trans hS, by omega⟩
theorem stp_d {w w' : World} {d mb : Nat} {L : List GF} (hk : Keep [d] w w') : Stp (foot d mb L) (foot d mb L) w w' := ⟨hk.mono (by simp [foot]), fun x hx => .inl hx⟩
theorem errV_ne {n : Nat} (h : n ≠ 0) : errV n = .iface 39 (.int .i64 (n : Nat)) := if_neg h
theorem find_bad (B d mb : Nat) (S : DS) (L : List GF) (s : ByteArray) (w : World) (h : DiskAt w B d mb S L) (hs : s.size ≤ 281474976710656) (hf : fnd S s.data.toList ≠ 0) :
    Calls Tryd.prog 21 #[.pointer (some ⟨d, 0, none⟩), .string s] w fun e w' => e = .returned (.tuple #[.pointer none, .iface 39 (.int .i64 (fnd S s.data.toList : Nat))]) ∧ w = w' := by
  cases ho : S.off
  · rcases hq : Dk.get S.l s.data.toList with _ | f
    · have e : fnd S s.data.toList = 9 := by unfold fnd has; rw [ho, hq]; rfl
      rw [e]
      exact find_none B d mb S L s w h hs ho hq
    · exfalso; exact hf (by unfold fnd has; rw [ho, hq]; rfl)
  · have e : fnd S s.data.toList = 11 := by unfold fnd; rw [ho]; rfl
    rw [e]
    exact find_off B d mb S L s w h ho
theorem stepd_zero {S : DS} (h : S.bud = 0) : stepd S wrap64 = (false, (stepd S wrap64).2) := by unfold stepd; rw [if_pos h]
theorem stepd_one {S : DS} (h : S.bud ≠ 0) : stepd S wrap64 = (true, (stepd S wrap64).2) := by unfold stepd; rw [if_neg h]
theorem ok_upd {S : DS} (h : S.Ok) {l1 l2 : List PF} {f f' : PF} (hl : S.l = l1 ++ f :: l2) (hn : f'.nm = f.nm) (hs : f'.sy ≤ f'.b.length) (hu : (used l1 : Int) + f'.b.length + used l2 ≤ S.room) : DS.Ok { S with l := l1 ++ f' :: l2 } := by
  refine ⟨h.r0, h.r1, h.b0, h.b1, ?_, fun x hx => ?_, fun x hx => ?_, ?_⟩
  · show (used (l1 ++ f' :: l2) : Int) ≤ _
    rw [used_app, used_cons]
    show _ ≤ S.room
    omega
  · rcases List.mem_append.1 hx with hx | hx
    · exact h.nm x (by rw [hl]; simp [hx])
    · rcases List.mem_cons.1 hx with rfl | hx
      · rw [hn]; exact h.nm f (by rw [hl]; simp)
      · exact h.nm x (by rw [hl]; simp [hx])
  · rcases List.mem_append.1 hx with hx | hx
    · exact h.sy x (by rw [hl]; simp [hx])
    · rcases List.mem_cons.1 hx with rfl | hx
      · exact hs
      · exact h.sy x (by rw [hl]; simp [hx])
  · have hr := h.ris
    rw [hl] at hr
    have e : Ris id ((l1 ++ f :: l2).map PF.nm) := (Ris.map (f := PF.nm) (fun _ => rfl)).2 hr
    refine (Ris.map (f := PF.nm) (key' := id) (fun _ => rfl)).1 ?_
    rw [List.map_append, List.map_cons, hn]
    rw [List.map_append, List.map_cons] at e
    exact e
theorem upd_L {S : DS} {l1 l2 : List GF} {g g' : GF} {x : List UInt8} {u : PF → PF} (hl : S.l = (l1 ++ g :: l2).map GF.f) (h1 : ∀ z ∈ l1, z.f.nm ≠ x) (h2 : ∀ z ∈ l2, z.f.nm ≠ x) (hg : g.f.nm = x) (hu : g'.f = u g.f) :
    Dk.upd S.l x u = (l1 ++ g' :: l2).map GF.f := by
  rw [hl, List.map_append, List.map_cons, List.map_append, List.map_cons, upd_split u (fun z hz => ?_) (fun z hz => ?_) hg, hu]
  · obtain ⟨y, hy, rfl⟩ := List.mem_map.1 hz
    exact h1 y hy
  · obtain ⟨y, hy, rfl⟩ := List.mem_map.1 hz
    exact h2 y hy
set_option maxHeartbeats 800000 in
theorem sync_any (B d mb : Nat) (S : DS) (L : List GF) (s : ByteArray) (w : World) (h : DiskAt w B d mb S L) (hs : s.size ≤ 281474976710656) :
    Calls Tryd.prog 8 #[.pointer (some ⟨d, 0, none⟩), .string s] w fun e w' => e = .returned (errV (syn wrap64 S s.data.toList).1) ∧ Done w B d mb L (syn wrap64 S s.data.toList).2 w' := by
  refine calls_hid fun G hG => ?_
  by_cases hf : fnd S s.data.toList = 0
  · obtain ⟨ho, f, hq⟩ := fnd_ok hf
    obtain ⟨l1, l2, g, rfl, rfl, hnm, h1, h2⟩ := h.isome hq
    have hF := find_ok B d mb S l1 l2 g s w h hs ho h1 hnm
    have hT := step_any B d mb S (l1 ++ g :: l2) w h
    have hok := (stepd_ok h.ok wrap64)
    have hfl := (h.fl g (by simp)).sy
    have hls : (stepd S wrap64).2.l = (l1 ++ g :: l2).map GF.f := by rw [(stepd_l S wrap64).1]; exact h.ls
    by_cases hb : S.bud = 0
    · rw [stepd_zero hb] at hT
      have hg : ∀ w', Done w B d mb (l1 ++ g :: l2) (stepd S wrap64).2 w' → G (.returned (errV 11)) w' := fun w' hd => hG.out _ _ (by
        have e : syn wrap64 S s.data.toList = (11, (stepd S wrap64).2) := by unfold syn; rw [if_neg (by simp [hf]), stepd_zero hb]; rfl
        rw [e]; exact ⟨rfl, hd⟩)
      generalize (stepd S wrap64).2 = S1 at *
      replace hg := Lib.hid hg
      clear hG h hf ho hq hnm h1 h2 hb hok hls hfl
      go_enter Tryd.func8, Tryd.ntmps8
      go_wp2_with (first
        | (go_at_call 21; with_reducible refine hF.mono ?_; rintro e w' ⟨rfl, rfl⟩)
        | (go_at_call 20; with_reducible refine hT.mono ?_; rintro e w1 ⟨rfl, hD1, hk1⟩))
      exact hg.out _ (Done.d hD1 hk1)
    · rw [stepd_one hb] at hT
      have hg : ∀ w', Done w B d mb (l1 ++ g :: l2) { (stepd S wrap64).2 with l := Dk.upd S.l s.data.toList fun f => { f with sy := f.b.length } } w' → G (.returned (errV 0)) w' := fun w' hd => hG.out _ _ (by
        have e : syn wrap64 S s.data.toList = (0, { (stepd S wrap64).2 with l := Dk.upd S.l s.data.toList fun f => { f with sy := f.b.length } }) := by unfold syn; rw [if_neg (by simp [hf]), stepd_one hb]; rfl
        rw [e]; exact ⟨rfl, hd⟩)
      have hul := upd_L (g' := ⟨{ g.f with sy := g.f.b.length }, g.k, g.A, g.c⟩) (u := fun f => { f with sy := f.b.length }) h.ls h1 h2 hnm rfl
      rw [hul] at hg
      clear hul
      generalize (stepd S wrap64).2 = S1 at *
      have hok2 : DS.Ok { S1 with l := (l1 ++ ⟨{ g.f with sy := g.f.b.length }, g.k, g.A, g.c⟩ :: l2).map GF.f } := by
        rw [List.map_append, List.map_cons] at hls ⊢
        refine ok_upd hok hls rfl (Nat.le_refl _) ?_
        have := hok.u
        rw [hls, used_app, used_cons] at this
        show (used _ : Int) + (g.f.b.length : Nat) + (used _ : Nat) ≤ S1.room
        omega
      have hgm : g ∈ l1 ++ g :: l2 := by simp
      replace hg := Lib.hid hg
      clear hG h hf ho hq hnm h1 h2 hb hok hls hfl
      go_enter Tryd.func8, Tryd.ntmps8
      go_wp2_with (first
        | (go_at_call 21; with_reducible refine hF.mono ?_; rintro e w' ⟨rfl, rfl⟩)
        | (go_at_call 20; with_reducible refine hT.mono ?_; rintro e w1 ⟨rfl, hD1, hk1⟩; have hFl := Lib.hid (hD1.fl g hgm); have e0 : w1.cell? ⟨g.k, 0, none⟩ = some (.slice g.A g.f.b.length g.c) := hFl.out.row.cell (i := 0) (by simp); have e1 : w1.cell? ⟨g.k, 1, none⟩ = some (.int .i64 g.f.sy) := hFl.out.row.cell (i := 1) (by simp); have f1 := hFl.out.row.fro 1; replace hD1 := Lib.hid hD1))
      have hk2 := Keep.setCell w1 ⟨g.k, 1, none⟩ (.int .i64 (g.f.b.length : Nat))
      have hr2 := hFl.out.row.set 1 (.int .i64 (g.f.b.length : Nat))
      have hsw := hD1.out.swap (g' := ⟨{ g.f with sy := g.f.b.length }, g.k, g.A, g.c⟩) (S' := { S1 with l := (l1 ++ ⟨{ g.f with sy := g.f.b.length }, g.k, g.A, g.c⟩ :: l2).map GF.f }) hk2 (by simp [ownB]) rfl rfl
        (FS.file (g := ⟨{ g.f with sy := g.f.b.length }, g.k, g.A, g.c⟩) (hFl.out.fs.keep hk2 (fun x hx hm => by
          have := (hD1.out.sep.of).2.1
          rw [List.mem_singleton.1 hm] at hx
          exact this hx)) hr2 (Nat.le_refl _) hFl.out.ge.1 hFl.out.len) (fun x hx => .inl hx) rfl rfl hok2
      exact hg.out _ ⟨_, hsw.1, (stp_d hk1).trans hsw.2, by simp⟩
  · have hF := find_bad B d mb S L s w h hs hf
    have hg : G (.returned (errV (fnd S s.data.toList))) w := hG.out _ _ (by
      have e : syn wrap64 S s.data.toList = (fnd S s.data.toList, S) := by unfold syn; rw [if_pos hf]
      rw [e]; exact ⟨rfl, Done.same h⟩)
    rw [errV_ne hf] at hg
    clear hG h hf
    generalize ((fnd S s.data.toList : Nat) : Int) = q at *
    go_enter Tryd.func8, Tryd.ntmps8
    go_wp2_with (go_at_call 21; with_reducible refine hF.mono ?_; rintro e w' ⟨rfl, rfl⟩)
    exact hg
end Go.Proofs.YtkgnaabmcboffaaDoor
