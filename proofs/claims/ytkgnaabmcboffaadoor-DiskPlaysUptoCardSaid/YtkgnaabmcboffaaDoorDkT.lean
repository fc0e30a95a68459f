/-
  Walks of the disk: cut short.
-/
import Derived.Test.YtkgnaabmcboffaaDoorDkH
set_option linter.unusedSimpArgs false
set_option linter.unusedVariables false
namespace Go.Proofs.YtkgnaabmcboffaaDoor
open Go.RowKit Go.Cv Go.Cv.Dk
set_option maxHeartbeats 1600000 in
theorem trunc_any (B d mb : Nat) (S : DS) (L : List GF) (s : ByteArray) (n : Int) (w : World) (h : DiskAt w B d mb S L) (hs : s.size ≤ 281474976710656) (hn : n ≤ 9223372036854775807) :
    Calls Tryd.prog 26 #[.pointer (some ⟨d, 0, none⟩), .string s, .int .i64 n] w fun e w' => e = .returned (errV (trunc wrap64 S s.data.toList n).1) ∧ Done w B d mb L (trunc wrap64 S s.data.toList n).2 w' := by
  refine calls_hid fun G hG => ?_
  by_cases hf : fnd S s.data.toList = 0
  · obtain ⟨ho, f, hq⟩ := fnd_ok hf
    obtain ⟨l1, l2, g, rfl, rfl, hnm, h1, h2⟩ := h.isome hq
    have hF := find_ok B d mb S l1 l2 g s w h hs ho h1 hnm
    have hct : cont S s.data.toList = g.f.b := by unfold cont; rw [hq]
    have hlen := (h.fl g (by simp)).len
    have e0 : w.cell? ⟨g.k, 0, none⟩ = some (.slice g.A g.f.b.length g.c) := (h.fl g (by simp)).row.cell (i := 0) (by simp)
    by_cases hbad : n < 0 ∨ n > (g.f.b.length : Nat)
    · have hg : G (.returned (errV 1)) w := hG.out _ _ (by
        have e : trunc wrap64 S s.data.toList n = (1, S) := by unfold trunc; rw [if_neg (by simp [hf]), hct, if_pos hbad]
        rw [e]; exact ⟨rfl, Done.same h⟩)
      generalize g.f.b.length = q at *
      by_cases h0 : n < 0
      · clear hG h hf ho hq hnm h1 h2 hct hbad
        go_enter Tryd.func26, Tryd.ntmps26
        go_wp2_with (go_at_call 21; (with_reducible refine hF.mono ?_); rintro e w' ⟨rfl, rfl⟩)
        exact hg
      · have h3 : (q : Int) < n := by omega
        clear hG h hf ho hq hnm h1 h2 hct hbad
        go_enter Tryd.func26, Tryd.ntmps26
        go_wp2_with (go_at_call 21; (with_reducible refine hF.mono ?_); rintro e w' ⟨rfl, rfl⟩)
        exact hg
    · obtain ⟨z, rfl⟩ : ∃ z : Nat, n = z := ⟨n.toNat, by omega⟩
      have hzq : z ≤ g.f.b.length := by omega
      have hT := step_any B d mb S (l1 ++ g :: l2) w h
      have hcut : trunc wrap64 S s.data.toList z = if (stepd S wrap64).1 then (0, { (stepd S wrap64).2 with l := Dk.upd S.l s.data.toList fun f => { f with b := f.b.take (z : Int).toNat, sy := (z : Int).toNat } }) else (11, (stepd S wrap64).2) := by
        unfold trunc; rw [if_neg (by simp [hf]), hct, if_neg hbad]
      have hzt : ((z : Int)).toNat = z := by omega
      rw [hzt] at hcut
      by_cases hb : S.bud = 0
      · rw [stepd_zero hb] at hT hcut
        have hg : ∀ w', Done w B d mb (l1 ++ g :: l2) (stepd S wrap64).2 w' → G (.returned (errV 11)) w' := fun w' hd => hG.out _ _ (by rw [hcut]; exact ⟨rfl, hd⟩)
        replace hg := Lib.hid hg
        generalize (stepd S wrap64).2 = S1 at *
        have hzn : (z : Int) ≤ (g.f.b.length : Nat) := by omega
        generalize g.f.b.length = q at *
        clear hG h hf ho hq hnm h1 h2 hb hct hbad hcut
        go_enter Tryd.func26, Tryd.ntmps26
        go_wp2_with (first
          | (go_at_call 21; (with_reducible refine hF.mono ?_); rintro e w' ⟨rfl, rfl⟩)
          | (go_at_call 20; (with_reducible refine hT.mono ?_); rintro e w1 ⟨rfl, hD1, hk1⟩))
        exact hg.out _ (Done.d hD1 hk1)
      · rw [stepd_one hb] at hT hcut
        have hup := upd_L (g' := ⟨{ g.f with b := g.f.b.take z, sy := z }, g.k, g.A, z⟩) (u := fun f => { f with b := f.b.take z, sy := z }) h.ls h1 h2 hnm rfl
        have hg : ∀ w', Done w B d mb (l1 ++ g :: l2) { (stepd S wrap64).2 with l := (l1 ++ ⟨{ g.f with b := g.f.b.take z, sy := z }, g.k, g.A, z⟩ :: l2).map GF.f } w' → G (.returned (errV 0)) w' := fun w' hd => hG.out _ _ (by rw [hcut, hup]; exact ⟨rfl, hd⟩)
        replace hg := Lib.hid hg
        generalize (stepd S wrap64).2 = S1 at *
        have hzn : (z : Int) ≤ (g.f.b.length : Nat) := by omega
        have hgm : g ∈ l1 ++ g :: l2 := by simp
        have hcz : z ≤ g.c := by have := (h.fl g hgm).nc; omega
        have hzi : (z : Int) ≤ (g.c : Nat) := by omega
        obtain ⟨q, hq2⟩ : ∃ q, q = g.f.b.length := ⟨_, rfl⟩
        rw [← hq2] at e0 hzn hlen
        have hqh := Lib.hid hq2
        clear hG h hf ho hq hnm h1 h2 hb hct hbad hcut hup hq2
        go_enter Tryd.func26, Tryd.ntmps26
        go_wp2_with (first
          | (go_at_call 21; (with_reducible refine hF.mono ?_); rintro e w' ⟨rfl, rfl⟩)
          | (go_at_call 20; (with_reducible refine hT.mono ?_); rintro e w1 ⟨rfl, hD1, hk1⟩; have hFl := Lib.hid (hD1.fl g hgm); have e1 : w1.cell? ⟨g.k, 0, none⟩ = some (.slice g.A q g.c) := (by rw [hqh.out]; exact hFl.out.row.cell (i := 0) (by simp)); have f1 := hFl.out.row.fro 0; have f2 := (hFl.out.row.set 0 (.slice g.A z z)).fro 1; have e2 : (w1.setCell ⟨g.k, 0, none⟩ (.slice g.A z z)).cell? ⟨g.k, 1, none⟩ = some (.int .i64 (g.f.sy : Nat)) := (hFl.out.row.set 0 (.slice g.A z z)).cell (i := 1) (by simp); replace hD1 := Lib.hid hD1))
        have hc := hD1.out.cutAt hzq rfl
        exact hg.out _ ⟨_, hc.1, (stp_d hk1).trans ⟨hc.2.2.mono (fun x hx => by
          rw [List.mem_singleton.1 hx]
          simp only [foot, List.mem_cons, List.mem_flatMap]
          exact .inr (.inr ⟨g, by simp, by simp [ownB]⟩)), fun x hx => .inl (by rw [hc.2.1] at hx; exact hx)⟩, by simp⟩
  · have hF := find_bad B d mb S L s w h hs hf
    have hg : G (.returned (errV (fnd S s.data.toList))) w := hG.out _ _ (by
      have e : trunc wrap64 S s.data.toList n = (fnd S s.data.toList, S) := by unfold trunc; rw [if_pos hf]
      rw [e]; exact ⟨rfl, Done.same h⟩)
    rw [errV_ne hf] at hg
    clear hG h hf
    generalize ((fnd S s.data.toList : Nat) : Int) = q at *
    go_enter Tryd.func26, Tryd.ntmps26
    go_wp2_with (go_at_call 21; (with_reducible refine hF.mono ?_); rintro e w' ⟨rfl, rfl⟩)
    exact hg
theorem trunc_dk {B d : Nat} {S : DS} {bs : List Nat} (s : ByteArray) (n : Int) {w : World} (h : Dsk w B d S bs) (hs : s.size ≤ 281474976710656) (hn : n ≤ 9223372036854775807) :
    Calls Tryd.prog 26 #[.pointer (some ⟨d, 0, none⟩), .string s, .int .i64 n] w fun e w' => e = .returned (errV (trunc wrap64 S s.data.toList n).1) ∧ DN w B d bs (trunc wrap64 S s.data.toList n).2 w' := by
  obtain ⟨mb, L, h, rfl⟩ := h
  exact (trunc_any B d mb S L s n w h hs hn).mono fun e w' x => ⟨x.1, x.2.dn⟩
end Go.Proofs.YtkgnaabmcboffaaDoor
