/-
  Walks of the disk: other names, away.
-/
import Derived.Test.YtkgnaabmcboffaaDoorDkT
set_option linter.unusedSimpArgs false
set_option linter.unusedVariables false
namespace Go.Proofs.YtkgnaabmcboffaaDoor
open Go.RowKit Go.Cv Go.Cv.Dk
section
variable {w : World} {ops : Array Oper} {rest : List Oper} {o : Oper} {a : Act} {Q : Exit → Act → World → Prop}
/-- 'delete(files, name)'. -/
theorem wpList_drop_files (hg : o.guard = none) (m x : Operand) (hop : o.op = Op.call { callee := Callee.builtin Builtin.delete, args := #[m, x], argTypes := #[50, 9] })
    (mb : Nat) (L : List GF) (hm : a.eval m = .map (some mb)) (h : MapAt w mb L) (s : ByteArray) (hx : a.eval x = .string s) (hs : s.size ≤ 281474976710656)
    (hK : ∀ w', MapAt w' mb (L.filter fun z => !(z.f.nm == s.data.toList)) → Keep [mb] w w' → wpList Tryd.prog ops Q rest (a.put o.dst (.tuple #[])) w') :
    wpList Tryd.prog ops Q (o :: rest) a w := by
  refine wpList_plain hg fun K' hK' => ?_
  obtain ⟨w', hrun, r1, r2⟩ := h.drop (s := s) (by unfold maxLen; omega) o.type
  unfold Oper.wp
  simp [execOp, hop, resolve, invoke, builtin, hm, hx, hrun, Result.andThen]
  exact hK' _ _ (hK w' r1 r2)
end
/-- Some files go away, the map with them. -/
theorem DiskAt.fewer {w w' : World} {B d mb : Nat} {S S' : DS} {L l : List GF} (h : DiskAt w B d mb S L) (hl : l.Sublist L) (hk : Keep [mb] w w') (hM : MapAt w' mb l) (hd : dcells S'.room mb S'.off S'.bud S'.st = dcells S.room mb S.off S.bud S.st) (hS : S'.l = l.map GF.f) (hok : S'.Ok) :
    DiskAt w' B d mb S' l ∧ Stp (foot d mb L) (foot d mb l) w w' := by
  have hmb : ∀ g ∈ L, ∀ x ∈ ownB g, x ∉ [mb] := fun g hg x hx hm => by
    rw [List.mem_singleton.1 hm] at hx
    exact (h.sep.each g hg).2.2 hx
  refine ⟨⟨?_, hM, fun g hg => (h.fl g (hl.subset hg)).keep hk (hmb g (hl.subset hg)), h.sep.sub hl, hS, h.ge, hok⟩, hk.mono (by simp [foot]), fun x hx => .inl ?_⟩
  · have := h.row.keep hk (fun hm => h.sep.dm (List.mem_singleton.1 hm))
    rw [show [Value.int .i64 S'.room, .map (some mb), .bool S'.off, .int .i64 S'.bud, .int .i64 S'.st] = [Value.int .i64 S.room, .map (some mb), .bool S.off, .int .i64 S.bud, .int .i64 S.st] from hd]
    exact this
  · simp only [foot, List.mem_cons, List.mem_flatMap] at hx ⊢
    rcases hx with rfl | rfl | ⟨z, hz, hx⟩
    · exact .inl rfl
    · exact .inr (.inl rfl)
    · exact .inr (.inr ⟨z, hl.subset hz, hx⟩)
theorem filter_f (L : List GF) (x : List UInt8) : (L.filter fun z => !(z.f.nm == x)).map GF.f = Dk.del (L.map GF.f) x := by
  unfold Dk.del
  rw [List.filter_map]
  rfl
theorem ok_del {S : DS} (h : S.Ok) (x : List UInt8) : DS.Ok { S with l := Dk.del S.l x } := by
  refine ⟨h.r0, h.r1, h.b0, h.b1, ?_, fun y hy => h.nm y (List.mem_filter.1 hy).1, fun y hy => h.sy y (List.mem_filter.1 hy).1, h.ris.filter _⟩
  have h1 := used_del S.l x
  have h2 := h.u
  show (used (Dk.del S.l x) : Int) ≤ S.room
  omega
theorem ok_ren {S : DS} (h : S.Ok) {x y : List UInt8} {f : PF} (hf : Dk.get S.l x = some f) (hy : nameOk y = true) : DS.Ok { S with l := ins PF.nm { f with nm := y } (Dk.del (Dk.del S.l x) y) } := by
  obtain ⟨l1, l2, hl, hn, h1, h2⟩ := get_split h.ris hf
  have hm := ins_mem PF.nm { f with nm := y } (Dk.del (Dk.del S.l x) y)
  have hsub : ∀ z ∈ Dk.del (Dk.del S.l x) y, z ∈ S.l := fun z hz => (List.mem_filter.1 (List.mem_filter.1 hz).1).1
  have hfm : f ∈ S.l := by rw [hl]; simp
  refine ⟨h.r0, h.r1, h.b0, h.b1, ?_, fun z hz => ?_, fun z hz => ?_, ((h.ris.filter _).filter _).ins fun z hz => ?_⟩
  · show (used (ins PF.nm { f with nm := y } (Dk.del (Dk.del S.l x) y)) : Int) ≤ S.room
    obtain ⟨m1, m2, e1, e2⟩ := ins_split PF.nm { f with nm := y } (Dk.del (Dk.del S.l x) y)
    have e3 := used_del (Dk.del S.l x) y
    have e4 : used S.l = f.b.length + used (Dk.del S.l x) := by
      rw [hl, del_split h1 h2 hn, used_app, used_app, used_cons]; omega
    have := h.u
    rw [e1, used_app] at e3
    rw [e2, used_app, used_cons]
    show ((used m1 + (f.b.length + used m2) : Nat) : Int) ≤ S.room
    omega
  · rcases (hm z).1 hz with rfl | hz
    · exact hy
    · exact h.nm z (hsub z hz)
  · rcases (hm z).1 hz with rfl | hz
    · exact h.sy f hfm
    · exact h.sy z (hsub z hz)
  · have := (List.mem_filter.1 hz).2
    simpa using this
/-- A file has another name. -/
theorem DiskAt.renamed {w w' : World} {B d mb : Nat} {S : DS} {l1 l2 : List GF} {g : GF} {x y : List UInt8} (h : DiskAt w B d mb S (l1 ++ g :: l2)) (hg : Dk.get S.l x = some g.f) (hx : g.f.nm = x) (hy : nameOk y = true) (hk : Keep [mb] w w')
    (hM : MapAt w' mb (ins GF.nm ⟨{ g.f with nm := y }, g.k, g.A, g.c⟩ (((l1 ++ g :: l2).filter fun z => !(z.f.nm == x)).filter fun z => !(z.f.nm == y)))) :
    Done w B d mb (l1 ++ g :: l2) { S with l := ins PF.nm { g.f with nm := y } (Dk.del (Dk.del S.l x) y) } w' := by
  have hris := ris_after h.map.ris
  have e1 : (l1 ++ g :: l2).filter (fun z => !(z.f.nm == x)) = l1 ++ l2 := by
    rw [List.filter_append, List.filter_cons_of_neg (by simp [hx])]
    rw [filter_all_ (fun z hz => by simpa [GF.nm, hx] using hris.1 z hz), filter_all_ (fun z hz => by simpa [GF.nm, hx] using hris.2 z hz)]
  have hS : ins PF.nm { g.f with nm := y } (Dk.del (Dk.del S.l x) y) = (ins GF.nm (⟨{ g.f with nm := y }, g.k, g.A, g.c⟩ : GF) (((l1 ++ g :: l2).filter fun z => !(z.f.nm == x)).filter fun z => !(z.f.nm == y))).map GF.f := by
    rw [ins_map (key := GF.nm) (key' := PF.nm) (f := GF.f) (fun _ => rfl), filter_f, filter_f, h.ls]
  rw [e1] at hM hS
  obtain ⟨m1, m2, e2, e3⟩ := ins_split GF.nm (⟨{ g.f with nm := y }, g.k, g.A, g.c⟩ : GF) ((l1 ++ l2).filter fun z => !(z.f.nm == y))
  rw [e3] at hM hS
  have hsub : ∀ z ∈ m1 ++ m2, z ∈ l1 ++ l2 := fun z hz => by rw [← e2] at hz; exact (List.mem_filter.1 hz).1
  have hin : ∀ z ∈ l1 ++ l2, z ∈ l1 ++ g :: l2 := fun z hz => by
    rcases List.mem_append.1 hz with hz | hz
    · simp [hz]
    · simp [hz]
  obtain ⟨s1, s2, s3, s4, s5⟩ := h.sep.of
  have hmb : ∀ z ∈ l1 ++ g :: l2, ∀ x ∈ ownB z, x ∉ [mb] := fun z hz x hx hm => by
    rw [List.mem_singleton.1 hm] at hx
    exact (h.sep.each z hz).2.2 hx
  have hG := (h.fl g (by simp)).keep hk (hmb g (by simp))
  refine ⟨m1 ++ ⟨{ g.f with nm := y }, g.k, g.A, g.c⟩ :: m2, ⟨?_, hM, fun z hz => ?_, ?_, hS, h.ge, ok_ren h.ok hg hy⟩, ⟨hk.mono (by simp [foot]), fun z hz => .inl ?_⟩, ?_⟩
  · exact h.row.keep hk (fun hm => h.sep.dm (List.mem_singleton.1 hm))
  · rcases List.mem_append.1 hz with hz | hz
    · exact (h.fl z (hin z (hsub z (by simp [hz])))).keep hk (hmb z (hin z (hsub z (by simp [hz]))))
    · rcases List.mem_cons.1 hz with rfl | hz
      · exact ⟨hG.row, hG.rd, hG.nc, hG.cm, hG.sy, hG.own, hG.nil, hG.len, hG.ge⟩
      · exact (h.fl z (hin z (hsub z (by simp [hz])))).keep hk (hmb z (hin z (hsub z (by simp [hz]))))
  · have hsp : Sep d mb (m1 ++ m2) := by
      rw [← e2]
      exact (h.sep.sub (l := l1 ++ l2) (by simp)).sub List.filter_sublist
    exact hsp.add s2 fun v hv => ⟨fun e => s3 (e ▸ hv), fun e => s4 (e ▸ hv), fun z hz => s5 z (hsub z hz) v hv⟩
  · simp only [foot, List.mem_cons, List.mem_flatMap] at hz ⊢
    rcases hz with rfl | rfl | ⟨v, hv, hz⟩
    · exact .inl rfl
    · exact .inr (.inl rfl)
    · rcases List.mem_append.1 hv with hv | hv
      · exact .inr (.inr ⟨v, hin v (hsub v (by simp [hv])), hz⟩)
      · rcases List.mem_cons.1 hv with rfl | hv
        · exact .inr (.inr ⟨g, by simp, hz⟩)
        · exact .inr (.inr ⟨v, hin v (hsub v (by simp [hv])), hz⟩)
  · have : (m1 ++ m2).length ≤ (l1 ++ l2).length := by rw [← e2]; exact List.length_filter_le _ _
    simp only [List.length_append, List.length_cons] at this ⊢
    omega
set_option maxHeartbeats 1600000 in
theorem remove_any (B d mb : Nat) (S : DS) (L : List GF) (s : ByteArray) (w : World) (h : DiskAt w B d mb S L) (hs : s.size ≤ 281474976710656) :
    Calls Tryd.prog 30 #[.pointer (some ⟨d, 0, none⟩), .string s] w fun e w' => e = .returned (errV (rem wrap64 S s.data.toList).1) ∧ Done w B d mb L (rem wrap64 S s.data.toList).2 w' := by
  refine calls_hid fun G hG => ?_
  by_cases hf : fnd S s.data.toList = 0
  · obtain ⟨ho, f, hq⟩ := fnd_ok hf
    obtain ⟨l1, l2, g, hL, hgf, hnm, h1, h2⟩ := h.isome hq
    have hF : Calls Tryd.prog 21 #[.pointer (some ⟨d, 0, none⟩), .string s] w fun e w' => e = .returned (.tuple #[.pointer (some ⟨g.k, 0, none⟩), .nilIface]) ∧ w = w' := by
      subst hL
      exact find_ok B d mb S l1 l2 g s w h hs ho h1 hnm
    have hT := step_any B d mb S L w h
    have hcut : rem wrap64 S s.data.toList = if (stepd S wrap64).1 then (0, { (stepd S wrap64).2 with l := Dk.del S.l s.data.toList }) else (11, (stepd S wrap64).2) := by
      unfold rem; rw [if_neg (by simp [hf])]
    have hsl := (stepd_l S wrap64).1
    rw [← hsl] at hcut
    by_cases hb : S.bud = 0
    · rw [stepd_zero hb] at hT hcut
      have hg : ∀ w', Done w B d mb L (stepd S wrap64).2 w' → G (.returned (errV 11)) w' := fun w' hd => hG.out _ _ (by rw [hcut]; exact ⟨rfl, hd⟩)
      replace hg := Lib.hid hg
      generalize (stepd S wrap64).2 = S1 at *
      clear hG h hf ho hq hnm h1 h2 hb hcut hL hgf hsl
      go_enter Tryd.func30, Tryd.ntmps30
      go_wp2_with (first
        | (go_at_call 21; (with_reducible refine hF.mono ?_); rintro e w' ⟨rfl, rfl⟩)
        | (go_at_call 20; (with_reducible refine hT.mono ?_); rintro e w1 ⟨rfl, hD1, hk1⟩))
      exact hg.out _ (Done.d hD1 hk1)
    · rw [stepd_one hb] at hT hcut
      have hg : ∀ w', Done w B d mb L { (stepd S wrap64).2 with l := Dk.del (stepd S wrap64).2.l s.data.toList } w' → G (.returned (errV 0)) w' := fun w' hd => hG.out _ _ (by rw [hcut]; exact ⟨rfl, hd⟩)
      replace hg := Lib.hid hg
      generalize (stepd S wrap64).2 = S1 at *
      clear hG h hf ho hq hnm h1 h2 hb hcut hL hgf hsl
      go_enter Tryd.func30, Tryd.ntmps30
      go_wp2_with (first
        | (go_at_call 21; (with_reducible refine hF.mono ?_); rintro e w' ⟨rfl, rfl⟩)
        | (go_at_call 20; (with_reducible refine hT.mono ?_); rintro e w1 ⟨rfl, hD1, hk1⟩; have c1 : w1.cell? ⟨d, 1, none⟩ = some (.map (some mb)) := hD1.row.cell (i := 1) (by simp); have hM := hD1.map; replace hD1 := Lib.hid hD1)
        | (at_delete; refine wpList_drop_files rfl (.tmp 23) (.tmp 24) rfl mb L rfl hM s rfl hs ?_; intro w2 hM2 hk2))
      have hfe := hD1.out.fewer (l := L.filter fun z => !(z.f.nm == s.data.toList)) (S' := { S1 with l := Dk.del S1.l s.data.toList }) List.filter_sublist hk2 hM2 rfl (by rw [filter_f, ← hD1.out.ls]) (ok_del hD1.out.ok _)
      exact hg.out _ ⟨_, hfe.1, (stp_d hk1).trans hfe.2, by have := List.length_filter_le (fun z : GF => !(z.f.nm == s.data.toList)) L; omega⟩
  · have hF := find_bad B d mb S L s w h hs hf
    have hg : G (.returned (errV (fnd S s.data.toList))) w := hG.out _ _ (by
      have e : rem wrap64 S s.data.toList = (fnd S s.data.toList, S) := by unfold rem; rw [if_pos hf]
      rw [e]; exact ⟨rfl, Done.same h⟩)
    rw [errV_ne hf] at hg
    clear hG h hf
    generalize ((fnd S s.data.toList : Nat) : Int) = q at *
    go_enter Tryd.func30, Tryd.ntmps30
    go_wp2_with (go_at_call 21; (with_reducible refine hF.mono ?_); rintro e w' ⟨rfl, rfl⟩)
    exact hg
set_option maxHeartbeats 1600000 in
theorem rename_any (B d mb : Nat) (S : DS) (L : List GF) (s t : ByteArray) (w : World) (h : DiskAt w B d mb S L) (hs : s.size ≤ 281474976710656) (ht : t.size ≤ 281474976710656) (hL : L.length < 281474976710656) :
    Calls Tryd.prog 28 #[.pointer (some ⟨d, 0, none⟩), .string s, .string t] w fun e w' => e = .returned (errV (ren wrap64 S s.data.toList t.data.toList).1) ∧ Done w B d mb L (ren wrap64 S s.data.toList t.data.toList).2 w' := by
  refine calls_hid fun G hG => ?_
  have hN := named_any t w ht
  by_cases hy : nameOk t.data.toList = false
  · have hg : ∀ w', Ext w w' → G (.returned (errV 1)) w' := fun w' hx => hG.out _ _ (by
      have e : ren wrap64 S s.data.toList t.data.toList = (1, S) := by unfold ren; rw [if_pos hy]
      rw [e]; exact ⟨rfl, Done.of_ext h hx⟩)
    rw [hy] at hN
    replace hg := Lib.hid hg
    clear hG h hy
    go_enter Tryd.func28, Tryd.ntmps28
    go_wp2_with (go_at_call 18; (with_reducible refine hN.mono ?_); rintro e w' ⟨rfl, hx0⟩)
    exact hg.out _ hx0
  · replace hy : nameOk t.data.toList = true := by simpa using hy
    rw [hy] at hN
    by_cases hf : fnd S s.data.toList = 0
    · obtain ⟨ho, f, hq⟩ := fnd_ok hf
      obtain ⟨l1, l2, g, hLe, hgf, hnm, h1, h2⟩ := h.isome hq
      have hF : ∀ w0, Ext w w0 → Calls Tryd.prog 21 #[.pointer (some ⟨d, 0, none⟩), .string s] w0 fun e w' => e = .returned (.tuple #[.pointer (some ⟨g.k, 0, none⟩), .nilIface]) ∧ w0 = w' := fun w0 hx => by
        have hx2 := h.ext hx
        subst hLe
        exact find_ok B d mb S l1 l2 g s w0 hx2 hs ho h1 hnm
      have hT := fun w0 (hx : Ext w w0) => step_any B d mb S L w0 (h.ext hx)
      have hcut : ren wrap64 S s.data.toList t.data.toList = if (stepd S wrap64).1 then (0, { (stepd S wrap64).2 with l := ins PF.nm { f with nm := t.data.toList } (Dk.del (Dk.del S.l s.data.toList) t.data.toList) }) else (11, (stepd S wrap64).2) := by
        unfold ren; rw [if_neg (by rw [hy]; simp), if_neg (by simp [hf]), hq]
      have hsl := (stepd_l S wrap64).1
      rw [← hsl] at hcut
      have hq1 : Dk.get (stepd S wrap64).2.l s.data.toList = some g.f := by rw [hsl, hq, hgf]
      by_cases hb : S.bud = 0
      · rw [stepd_zero hb] at hT hcut
        have hg : ∀ w', Done w B d mb L (stepd S wrap64).2 w' → G (.returned (errV 11)) w' := fun w' hd => hG.out _ _ (by rw [hcut]; exact ⟨rfl, hd⟩)
        replace hg := Lib.hid hg
        generalize (stepd S wrap64).2 = S1 at *
        clear hG h hf ho hq hnm h1 h2 hb hcut hLe hgf hsl hq1 hy
        go_enter Tryd.func28, Tryd.ntmps28
        go_wp2_with (first
          | (go_at_call 18; (with_reducible refine hN.mono ?_); rintro e w0 ⟨rfl, hx0⟩)
          | (go_at_call 21; (with_reducible refine (hF w0 hx0).mono ?_); rintro e w' ⟨rfl, rfl⟩)
          | (go_at_call 20; (with_reducible refine (hT w0 hx0).mono ?_); rintro e w1 ⟨rfl, hD1, hk1⟩))
        exact hg.out _ (Done.after (Stp.of_ext hx0) (Nat.le_refl _) (Done.d hD1 hk1))
      · rw [stepd_one hb] at hT hcut
        have hg : ∀ w', Done w B d mb L { (stepd S wrap64).2 with l := ins PF.nm { g.f with nm := t.data.toList } (Dk.del (Dk.del (stepd S wrap64).2.l s.data.toList) t.data.toList) } w' → G (.returned (errV 0)) w' := fun w' hd => hG.out _ _ (by rw [hcut, ← hgf]; exact ⟨rfl, hd⟩)
        replace hg := Lib.hid hg
        generalize (stepd S wrap64).2 = S1 at *
        replace hLe := Lib.hid hLe
        replace hq1 := Lib.hid hq1
        replace hnm := Lib.hid hnm
        replace hy := Lib.hid hy
        clear hG h hf ho hq h1 h2 hb hcut hgf hsl
        go_enter Tryd.func28, Tryd.ntmps28
        go_wp2_with (first
          | (go_at_call 18; (with_reducible refine hN.mono ?_); rintro e w0 ⟨rfl, hx0⟩)
          | (go_at_call 21; (with_reducible refine (hF w0 hx0).mono ?_); rintro e w' ⟨rfl, rfl⟩)
          | (go_at_call 20; (with_reducible refine (hT w0 hx0).mono ?_); rintro e w1 ⟨rfl, hD1, hk1⟩; have c1 : w1.cell? ⟨d, 1, none⟩ = some (.map (some mb)) := hD1.row.cell (i := 1) (by simp); have hM := hD1.map; have hrw := hD1.row; have hdm := hD1.sep.dm; replace hD1 := Lib.hid hD1)
          | (at_delete; refine wpList_drop_files rfl (.tmp 29) (.tmp 30) rfl mb L rfl hM s rfl hs ?_; intro w2 hM2 hk2; have c2 : w2.cell? ⟨d, 1, none⟩ = some (.map (some mb)) := (hrw.keep hk2 (fun hm => hdm (List.mem_singleton.1 hm))).cell (i := 1) (by simp); obtain ⟨w3, hst, hM3, hk3⟩ := hM2.store (s := t) (by unfold maxLen; omega) (by have := List.length_filter_le (fun z : GF => !(z.f.nm == s.data.toList)) L; unfold maxLen; omega) ⟨{ g.f with nm := t.data.toList }, g.k, g.A, g.c⟩ rfl))
        have hD1' := hD1.out
        rw [hLe.out] at hD1' hM3
        have hre := hD1'.renamed hq1.out hnm.out hy.out (hk2.same hk3) hM3
        rw [← hLe.out] at hre
        exact hg.out _ (Done.after (Stp.of_ext hx0) (Nat.le_refl _) (Done.after (stp_d hk1) (Nat.le_refl _) hre))
    · have hF := fun w0 (hx : Ext w w0) => find_bad B d mb S L s w0 (h.ext hx) hs hf
      have hg : ∀ w', Ext w w' → G (.returned (errV (fnd S s.data.toList))) w' := fun w' hx => hG.out _ _ (by
        have e : ren wrap64 S s.data.toList t.data.toList = (fnd S s.data.toList, S) := by unfold ren; rw [if_neg (by rw [hy]; simp), if_pos hf]
        rw [e]; exact ⟨rfl, Done.of_ext h hx⟩)
      rw [errV_ne hf] at hg
      replace hg := Lib.hid hg
      clear hG h hf hy
      generalize ((fnd S s.data.toList : Nat) : Int) = q at *
      go_enter Tryd.func28, Tryd.ntmps28
      go_wp2_with (first
        | (go_at_call 18; (with_reducible refine hN.mono ?_); rintro e w0 ⟨rfl, hx0⟩)
        | (go_at_call 21; (with_reducible refine (hF w0 hx0).mono ?_); rintro e w' ⟨rfl, rfl⟩))
      exact hg.out _ hx0
set_option maxHeartbeats 800000 in
theorem steps_is (B d mb : Nat) (S : DS) (L : List GF) (w : World) (h : DiskAt w B d mb S L) :
    Calls Tryd.prog 37 #[.pointer (some ⟨d, 0, none⟩)] w fun e w' => e = .returned (.int .i64 S.st) ∧ w = w' := by
  have c4 : w.cell? ⟨d, 4, none⟩ = some (.int .i64 S.st) := h.row.cell (i := 4) (by simp)
  clear h
  go_enter Tryd.func37, Tryd.ntmps37
  go_wp2
  go_ret
  exact ⟨rfl, rfl⟩
end Go.Proofs.YtkgnaabmcboffaaDoor
