/-
  Walks of the disk: append, done.
-/
import Derived.Test.YtkgnaabmcboffaaDoorDkE
set_option linter.unusedSimpArgs false
set_option linter.unusedVariables false
namespace Go.Proofs.YtkgnaabmcboffaaDoor
open Go.RowKit Go.Cv Go.Cv.Dk
theorem app_ok {S : DS} {x b : List UInt8} (hx : nameOk x = true) (ho : S.off = false) (hr : (b.length : Int) ≤ S.room - used S.l) :
    app wrap64 S x b = (if (stepd S wrap64).1 then 0 else 11, { (stepd S wrap64).2 with l := Dk.upd (may S.l x) x fun f => { f with b := f.b ++ b } }) := by
  unfold app; rw [if_neg (by rw [hx]; simp), if_neg (by rw [ho]; simp), if_neg (by omega)]
/-- What is behind an append. -/
theorem DiskAt.appended {w w' w5 : World} {B d mb : Nat} {S : DS} {l1 l2 : List GF} {g : GF} {A' : Option Addr} {c' : Nat} {b : List UInt8} (h : DiskAt w B d mb S (l1 ++ g :: l2)) (hF : FS w' B A' c' (g.f.b ++ b)) (hk : Keep (rowOf g.A) w w') (ho : ∀ x ∈ rowOf A', x ∈ rowOf g.A ∨ w.heap.size ≤ x)
    (he : w5 = w'.setCell ⟨g.k, 0, none⟩ (.slice A' (g.f.b.length + b.length) c')) (hu : (used S.l : Int) + b.length ≤ S.room) (hlen47 : g.f.b.length + b.length ≤ 140737488355328) :
    DiskAt w5 B d mb { S with l := (l1 ++ ⟨{ g.f with b := g.f.b ++ b }, g.k, A', c'⟩ :: l2).map GF.f } (l1 ++ ⟨{ g.f with b := g.f.b ++ b }, g.k, A', c'⟩ :: l2) ∧
      Stp (foot d mb (l1 ++ g :: l2)) (foot d mb (l1 ++ ⟨{ g.f with b := g.f.b ++ b }, g.k, A', c'⟩ :: l2)) w w5 := by
  subst he
  have hg := h.fl g (by simp)
  have hnk := h.sep.of.2.1
  have hkg : g.k < w.heap.size := hg.row.lt
  have hrow := (hg.row.keep hk hnk).set 0 (.slice A' (g.f.b.length + b.length) c')
  have hk5 := Keep.setCell w' ⟨g.k, 0, none⟩ (.slice A' (g.f.b.length + b.length) c')
  have hk2 : Keep (g.k :: rowOf g.A) w (w'.setCell ⟨g.k, 0, none⟩ (.slice A' (g.f.b.length + b.length) c')) := (hk.mono (fun x hx => by simp [hx])).trans hk5 (fun x hx => .inl (by rw [List.mem_singleton.1 hx]; simp))
  have hlen : (g.f.b ++ b).length = g.f.b.length + b.length := by simp
  refine h.swap hk2 (fun x hx => .inl hx) rfl rfl ?_ ho rfl rfl ?_
  · refine FS.file (g := ⟨{ g.f with b := g.f.b ++ b }, g.k, A', c'⟩) (hF.keep hk5 fun x hx hm => ?_) ?_ ?_ hg.ge.1 (by rw [hlen]; exact hlen47)
    · have e := List.mem_singleton.1 hm
      rcases ho x hx with h1 | h1
      · rw [e] at h1; exact hnk h1
      · rw [e] at h1
        have h1 : w.heap.size ≤ g.k := h1
        omega
    · show Row _ g.k _ [.slice A' (g.f.b ++ b).length c', _]
      rw [hlen]
      exact hrow
    · have := hg.sy
      show g.f.sy ≤ (g.f.b ++ b).length
      omega
  · have hls := h.ls
    rw [List.map_append, List.map_cons] at hls ⊢
    have hus := h.ok.u
    have hsy := hg.sy
    refine ok_upd h.ok hls rfl ?_ ?_
    · show g.f.sy ≤ (g.f.b ++ b).length
      omega
    · rw [hls, used_app, used_cons] at hu
      show (used _ : Int) + ((g.f.b ++ b).length : Nat) + (used _ : Nat) ≤ S.room
      rw [hlen]
      omega
set_option maxRecDepth 4000 in
set_option maxHeartbeats 1600000 in
theorem append_old (B d mb : Nat) (S : DS) (L : List GF) (s : ByteArray) (A : Option Addr) (n c : Nat) (b : List UInt8) (w : World) (h : Hid (DiskAt w B d mb S L)) (hs : s.size ≤ 281474976710656) (hl : b.length = n) (hr : Rd w A (b.map bv)) (hro : Ap A b (foot d mb L))
    (hbd : (cont S s.data.toList).length + n ≤ 140737488355328) (hL : L.length < 281474976710656) (hnm : nameOk s.data.toList = true) (hoff : S.off = false) (hfull : (n : Int) ≤ S.room - used S.l) (hq : Dk.has S.l s.data.toList = true) :
    Calls Tryd.prog 7 #[.pointer (some ⟨d, 0, none⟩), .string s, .slice A n c] w fun e w' => e = .returned (errV (app wrap64 S s.data.toList b).1) ∧ Done w B d mb L (app wrap64 S s.data.toList b).2 w' := by
  refine calls_hid fun G hG => ?_
  have hN := named_any s w hs
  rw [hnm] at hN
  have hu := h.out.ok.u
  have hr1 := h.out.ok.r1
  have hr0 := h.out.ok.r0
  have hwr : IntKind.i64.wrap (S.room - (used S.l : Nat)) = S.room - (used S.l : Nat) := IntWalk.i64_in _ (by omega)
  obtain ⟨f, hget⟩ : ∃ f, Dk.get S.l s.data.toList = some f := Option.isSome_iff_exists.1 hq
  obtain ⟨l1, l2, g, hLe, hgf, hgn, h1, h2⟩ := h.out.isome hget
  replace hLe := Lib.hid hLe
  have hct : (cont S s.data.toList) = g.f.b := by unfold cont; rw [hget, hgf]
  rw [hct] at hbd
  clear hct hget hgf
  have hln := Lib.hid hl
  replace hro := Lib.hid hro
  replace hnm := Lib.hid hnm
  have hhas := Lib.hid hq
  clear hl hq
  have hT := fun w0 (hx : Ext w w0) => step_any B d mb S L w0 (h.out.ext hx)
  obtain ⟨r, hre⟩ : ∃ r, r = (stepd S wrap64).1 := ⟨_, rfl⟩
  rw [← hre] at hT
  replace hre := Lib.hid hre
  go_enter Tryd.func7, Tryd.ntmps7
  go_upto_region 5 with (go_at_call 18; with_reducible refine hN.mono ?_; rintro e w0 ⟨rfl, hx0⟩; have c2 : w0.cell? ⟨d, 2, none⟩ = some (.bool S.off) := (h.out.ext hx0).row.cell (i := 2) (by simp); rw [hoff] at c2)
  refine wp_region_sure (fun w' => Ext w0 w') (by kernel_rfl) (ext_drew _) ?_
  refine wpAnyS_go (i := 0) (some 21) (v := ?_) rfl rfl (by kernel_rfl) (by kernel_rfl) (by kernel_rfl) (fun _ _ _ h => h) (.inl ⟨by rfl, fun w hS => ?_⟩) ?_
  rotate_left
  · (try go_simp)
    refine ⟨?_, hS⟩
    with_reducible rfl
  simp only [Act.put, List.setIfInBounds_toArray, List.set_cons_zero, List.set_cons_succ]
  refine wpAnyS_go (i := 1) (some 22) (v := ?_) rfl rfl (by kernel_rfl) (by kernel_rfl) (by kernel_rfl) (fun _ _ _ h => h) (.inl ⟨by rfl, fun w hS => ?_⟩) ?_
  rotate_left
  · (try go_simp)
    refine ⟨?_, hS⟩
    with_reducible rfl
  simp only [Act.put, List.setIfInBounds_toArray, List.set_cons_zero, List.set_cons_succ]
  refine wpAnyS_go (i := 2) (some 23) (v := ?_) rfl rfl (by kernel_rfl) (by kernel_rfl) (by kernel_rfl) (fun _ _ _ h => h) (.inl ⟨by rfl, fun w hS => ?_⟩) ?_
  rotate_left
  · (try go_simp)
    refine ⟨?_, hS⟩
    with_reducible rfl
  simp only [Act.put, List.setIfInBounds_toArray, List.set_cons_zero, List.set_cons_succ]
  refine wpAnyS_go (i := 3) (some 24) (v := ?_) rfl rfl (by kernel_rfl) (by kernel_rfl) (by kernel_rfl) (fun _ _ _ h => h) (.inl ⟨by rfl, fun w hS => ?_⟩) ?_
  rotate_left
  · (try go_simp)
    refine ⟨?_, hS⟩
    with_reducible rfl
  simp only [Act.put, List.setIfInBounds_toArray, List.set_cons_zero, List.set_cons_succ]
  refine wpAnyS_go (i := 4) (some 25) (v := ?_) rfl rfl (by kernel_rfl) (by kernel_rfl) (by kernel_rfl) (fun _ _ _ h => h) (.inl ⟨by rfl, fun w hS => ?_⟩) ?_
  rotate_left
  · (try go_simp)
    refine ⟨?_, hS⟩
    with_reducible rfl
  simp only [Act.put, List.setIfInBounds_toArray, List.set_cons_zero, List.set_cons_succ]
  refine wpAnyS_go (i := 5) (some 26) (v := ?_) rfl rfl (by kernel_rfl) (by kernel_rfl) (by kernel_rfl) (fun _ _ _ h => h) (.inl ⟨by rfl, fun w hS => ?_⟩) ?_
  rotate_left
  · have e0 := (h.out.ext (hx0.trans hS)).row.cell (i := 0) (by simp)
    go_simp
    refine ⟨?_, hS⟩
    with_reducible rfl
  simp only [Act.put, List.setIfInBounds_toArray, List.set_cons_zero, List.set_cons_succ]
  refine wpAnyS_go (i := 6) (some 27) (v := ?_) rfl rfl (by kernel_rfl) (by kernel_rfl) (by kernel_rfl) (fun _ _ _ h => h) (.inl ⟨by rfl, fun w hS => ?_⟩) ?_
  rotate_left
  · (try go_simp)
    refine ⟨?_, hS⟩
    with_reducible rfl
  simp only [Act.put, List.setIfInBounds_toArray, List.set_cons_zero, List.set_cons_succ]
  refine wpAnyS_go (i := 7) (some 28) (v := ?_) rfl rfl (by kernel_rfl) (by kernel_rfl) (by kernel_rfl) (fun _ _ _ h => h) (.inl ⟨by rfl, fun w hS => ?_⟩) ?_
  rotate_left
  · go_simp
    change Calls _ _ _ _ _
    refine Calls.mono (used_any B d mb S L _ (h.out.ext (hx0.trans hS))) ?_
    rintro e w' ⟨rfl, hx⟩
    refine ⟨?_, hS.trans hx⟩
    with_reducible rfl
  simp only [Act.put, List.setIfInBounds_toArray, List.set_cons_zero, List.set_cons_succ]
  refine wpAnyS_go (i := 8) (some 29) (v := ?_) rfl rfl (by kernel_rfl) (by kernel_rfl) (by kernel_rfl) (fun _ _ _ h => h) (.inl ⟨by rfl, fun w hS => ?_⟩) ?_
  rotate_left
  · (try go_simp)
    refine ⟨?_, hS⟩
    with_reducible rfl
  simp only [Act.put, List.setIfInBounds_toArray, List.set_cons_zero, List.set_cons_succ]
  refine wpAnyS_go (i := 9) (some 30) (v := ?_) rfl rfl (by kernel_rfl) (by kernel_rfl) (by kernel_rfl) (fun _ _ _ h => h) (.inl ⟨by rfl, fun w hS => ?_⟩) ?_
  rotate_left
  · (try go_simp)
    refine ⟨?_, hS⟩
    with_reducible rfl
  simp only [Act.put, List.setIfInBounds_toArray, List.set_cons_zero, List.set_cons_succ]
  refine wpAnyS_go (i := 10) (some 20) (v := ?_) rfl rfl (by kernel_rfl) (by kernel_rfl) (by kernel_rfl) (fun _ _ _ h => h) (.inl ⟨by rfl, fun w hS => ?_⟩) ?_
  rotate_left
  · (try go_simp)
    refine ⟨?_, hS⟩
    with_reducible rfl
  simp only [Act.put, List.setIfInBounds_toArray, List.set_cons_zero, List.set_cons_succ]
  refine wpAnyS_done (by kernel_rfl) fun w1 hS1 => ?_
  go_upto_region 13 with (first
    | (go_at_call 20; (with_reducible refine (hT w1 (hx0.trans hS1)).mono ?_); rintro e w2 ⟨rfl, hD2, hk2⟩; have c1 : w2.cell? ⟨d, 1, none⟩ = some (.map (some mb)) := hD2.row.cell (i := 1) (by simp); rw [hLe.out] at hD2; have hlk := (hD2.map.look' (s := s) (by unfold maxLen; omega) (by rw [hgn]; exact h1) hgn).2; have hFa := hD2.fl g (by simp); have hFs := hFa.fs; have hRw := hFa.row; have hnk := hD2.sep.of.2.1; have e2 : w2.cell? ⟨g.k, 0, none⟩ = some (.slice g.A g.f.b.length g.c) := hFa.row.cell (i := 0) (by simp); have hRd : Rd w2 A (b.map bv) := (hro.out.keep (hr.ext (hx0.trans hS1)) hk2 (by simp [foot])); have hD3 := Lib.hid hD2; clear hD2 hFa)
    | (at_builtin; refine wpList_appf rfl (.tmp 54) (.tmp 55) rfl B (g.A) (g.f.b.length) (g.c) (g.f.b) rfl rfl hFs A n c b rfl hln.out hRd (by omega) (by have := hD3.out.lt d (by simp [foot]); have := hD3.out.ge.1; omega) ?_; intro A' c' w4 hF4 hk4 hro4; have e4 : w4.cell? ⟨g.k, 0, none⟩ = _ := (hRw.keep hk4 hnk).cell (i := 0) (by simp); have f4 := (hRw.keep hk4 hnk).fro 0))
  have hG1 : ∀ w', Done w B d mb L { (stepd S wrap64).2 with l := Dk.upd (may S.l s.data.toList) s.data.toList fun f => { f with b := f.b ++ b } } w' → G (.returned (errV (if r then 0 else 11))) w' := fun w' hd => hG.out _ _ (by
    rw [app_ok hnm.out hoff (by rw [hln.out]; exact hfull), ← hre.out]; exact ⟨rfl, hd⟩)
  have hbn := hln.out
  subst hbn
  have hus := hu
  rw [← (stepd_l S wrap64).2, ← (stepd_l S wrap64).1] at hus
  have hdn := hD3.out.appended hF4 hk4 hro4 rfl (by rw [(stepd_l S wrap64).1, (stepd_l S wrap64).2]; omega) hbd
  have hmay : may S.l s.data.toList = S.l := if_pos hhas.out
  have hls := h.out.ls
  rw [hLe.out] at hls
  have hup := upd_L (g' := ⟨{ g.f with b := g.f.b ++ b }, g.k, A', c'⟩) (u := fun f => { f with b := f.b ++ b }) hls h1 h2 hgn rfl
  have hgf := hG1 _ ⟨_, (by rw [hmay, hup]; exact hdn.1), (by rw [hLe.out]; exact Stp.after (hx0.trans hS1) ((stp_d hk2).trans hdn.2)), by rw [hLe.out]; simp⟩
  clear hG hG1 hdn hup hls hmay hus h hD3 hT hF4 hFs
  cases r
  · go_wp2
    exact hgf
  · go_wp2
    exact hgf
set_option maxRecDepth 4000 in
set_option maxHeartbeats 1600000 in
theorem append_new (B d mb : Nat) (S : DS) (L : List GF) (s : ByteArray) (A : Option Addr) (n c : Nat) (b : List UInt8) (w : World) (h : Hid (DiskAt w B d mb S L)) (hs : s.size ≤ 281474976710656) (hl : b.length = n) (hr : Rd w A (b.map bv)) (hro : Ap A b (foot d mb L))
    (hbd : (cont S s.data.toList).length + n ≤ 140737488355328) (hL : L.length < 281474976710656) (hnm : nameOk s.data.toList = true) (hoff : S.off = false) (hfull : (n : Int) ≤ S.room - used S.l) (hq : Dk.get S.l s.data.toList = none) :
    Calls Tryd.prog 7 #[.pointer (some ⟨d, 0, none⟩), .string s, .slice A n c] w fun e w' => e = .returned (errV (app wrap64 S s.data.toList b).1) ∧ Done w B d mb L (app wrap64 S s.data.toList b).2 w' := by
  refine calls_hid fun G hG => ?_
  have hN := named_any s w hs
  rw [hnm] at hN
  have hu := h.out.ok.u
  have hr1 := h.out.ok.r1
  have hr0 := h.out.ok.r0
  have hwr : IntKind.i64.wrap (S.room - (used S.l : Nat)) = S.room - (used S.l : Nat) := IntWalk.i64_in _ (by omega)

  have hln := Lib.hid hl
  replace hro := Lib.hid hro
  replace hnm := Lib.hid hnm
  have hhas := Lib.hid hq
  clear hl hq
  have hT := fun w0 (hx : Ext w w0) => step_any B d mb S L w0 (h.out.ext hx)
  obtain ⟨r, hre⟩ : ∃ r, r = (stepd S wrap64).1 := ⟨_, rfl⟩
  rw [← hre] at hT
  replace hre := Lib.hid hre
  go_enter Tryd.func7, Tryd.ntmps7
  go_upto_region 5 with (go_at_call 18; with_reducible refine hN.mono ?_; rintro e w0 ⟨rfl, hx0⟩; have c2 : w0.cell? ⟨d, 2, none⟩ = some (.bool S.off) := (h.out.ext hx0).row.cell (i := 2) (by simp); rw [hoff] at c2)
  refine wp_region_sure (fun w' => Ext w0 w') (by kernel_rfl) (ext_drew _) ?_
  refine wpAnyS_go (i := 0) (some 21) (v := ?_) rfl rfl (by kernel_rfl) (by kernel_rfl) (by kernel_rfl) (fun _ _ _ h => h) (.inl ⟨by rfl, fun w hS => ?_⟩) ?_
  rotate_left
  · (try go_simp)
    refine ⟨?_, hS⟩
    with_reducible rfl
  simp only [Act.put, List.setIfInBounds_toArray, List.set_cons_zero, List.set_cons_succ]
  refine wpAnyS_go (i := 1) (some 22) (v := ?_) rfl rfl (by kernel_rfl) (by kernel_rfl) (by kernel_rfl) (fun _ _ _ h => h) (.inl ⟨by rfl, fun w hS => ?_⟩) ?_
  rotate_left
  · (try go_simp)
    refine ⟨?_, hS⟩
    with_reducible rfl
  simp only [Act.put, List.setIfInBounds_toArray, List.set_cons_zero, List.set_cons_succ]
  refine wpAnyS_go (i := 2) (some 23) (v := ?_) rfl rfl (by kernel_rfl) (by kernel_rfl) (by kernel_rfl) (fun _ _ _ h => h) (.inl ⟨by rfl, fun w hS => ?_⟩) ?_
  rotate_left
  · (try go_simp)
    refine ⟨?_, hS⟩
    with_reducible rfl
  simp only [Act.put, List.setIfInBounds_toArray, List.set_cons_zero, List.set_cons_succ]
  refine wpAnyS_go (i := 3) (some 24) (v := ?_) rfl rfl (by kernel_rfl) (by kernel_rfl) (by kernel_rfl) (fun _ _ _ h => h) (.inl ⟨by rfl, fun w hS => ?_⟩) ?_
  rotate_left
  · (try go_simp)
    refine ⟨?_, hS⟩
    with_reducible rfl
  simp only [Act.put, List.setIfInBounds_toArray, List.set_cons_zero, List.set_cons_succ]
  refine wpAnyS_go (i := 4) (some 25) (v := ?_) rfl rfl (by kernel_rfl) (by kernel_rfl) (by kernel_rfl) (fun _ _ _ h => h) (.inl ⟨by rfl, fun w hS => ?_⟩) ?_
  rotate_left
  · (try go_simp)
    refine ⟨?_, hS⟩
    with_reducible rfl
  simp only [Act.put, List.setIfInBounds_toArray, List.set_cons_zero, List.set_cons_succ]
  refine wpAnyS_go (i := 5) (some 26) (v := ?_) rfl rfl (by kernel_rfl) (by kernel_rfl) (by kernel_rfl) (fun _ _ _ h => h) (.inl ⟨by rfl, fun w hS => ?_⟩) ?_
  rotate_left
  · have e0 := (h.out.ext (hx0.trans hS)).row.cell (i := 0) (by simp)
    go_simp
    refine ⟨?_, hS⟩
    with_reducible rfl
  simp only [Act.put, List.setIfInBounds_toArray, List.set_cons_zero, List.set_cons_succ]
  refine wpAnyS_go (i := 6) (some 27) (v := ?_) rfl rfl (by kernel_rfl) (by kernel_rfl) (by kernel_rfl) (fun _ _ _ h => h) (.inl ⟨by rfl, fun w hS => ?_⟩) ?_
  rotate_left
  · (try go_simp)
    refine ⟨?_, hS⟩
    with_reducible rfl
  simp only [Act.put, List.setIfInBounds_toArray, List.set_cons_zero, List.set_cons_succ]
  refine wpAnyS_go (i := 7) (some 28) (v := ?_) rfl rfl (by kernel_rfl) (by kernel_rfl) (by kernel_rfl) (fun _ _ _ h => h) (.inl ⟨by rfl, fun w hS => ?_⟩) ?_
  rotate_left
  · go_simp
    change Calls _ _ _ _ _
    refine Calls.mono (used_any B d mb S L _ (h.out.ext (hx0.trans hS))) ?_
    rintro e w' ⟨rfl, hx⟩
    refine ⟨?_, hS.trans hx⟩
    with_reducible rfl
  simp only [Act.put, List.setIfInBounds_toArray, List.set_cons_zero, List.set_cons_succ]
  refine wpAnyS_go (i := 8) (some 29) (v := ?_) rfl rfl (by kernel_rfl) (by kernel_rfl) (by kernel_rfl) (fun _ _ _ h => h) (.inl ⟨by rfl, fun w hS => ?_⟩) ?_
  rotate_left
  · (try go_simp)
    refine ⟨?_, hS⟩
    with_reducible rfl
  simp only [Act.put, List.setIfInBounds_toArray, List.set_cons_zero, List.set_cons_succ]
  refine wpAnyS_go (i := 9) (some 30) (v := ?_) rfl rfl (by kernel_rfl) (by kernel_rfl) (by kernel_rfl) (fun _ _ _ h => h) (.inl ⟨by rfl, fun w hS => ?_⟩) ?_
  rotate_left
  · (try go_simp)
    refine ⟨?_, hS⟩
    with_reducible rfl
  simp only [Act.put, List.setIfInBounds_toArray, List.set_cons_zero, List.set_cons_succ]
  refine wpAnyS_go (i := 10) (some 20) (v := ?_) rfl rfl (by kernel_rfl) (by kernel_rfl) (by kernel_rfl) (fun _ _ _ h => h) (.inl ⟨by rfl, fun w hS => ?_⟩) ?_
  rotate_left
  · (try go_simp)
    refine ⟨?_, hS⟩
    with_reducible rfl
  simp only [Act.put, List.setIfInBounds_toArray, List.set_cons_zero, List.set_cons_succ]
  refine wpAnyS_done (by kernel_rfl) fun w1 hS1 => ?_
  go_upto_region 13 with (first
    | (go_at_call 20; (with_reducible refine (hT w1 (hx0.trans hS1)).mono ?_); rintro e w2 ⟨rfl, hD2, hk2⟩; have c1 : w2.cell? ⟨d, 1, none⟩ = some (.map (some mb)) := hD2.row.cell (i := 1) (by simp); have hq2 : Dk.get (stepd S wrap64).2.l s.data.toList = none := (by rw [(stepd_l S wrap64).1]; exact hhas.out); have hlk := (hD2.map.look (s := s) (by unfold maxLen; omega) (hD2.inone hq2)).2; obtain ⟨w3, l1, l2, hst, hLe, hD3, hS3, hnn⟩ := hD2.add hs hnm.out hq2 (by unfold maxLen; omega); have c1b : (w2.alloc (.cells #[.slice none 0 0, .int .i64 0] 57)).cell? ⟨d, 1, none⟩ = some (.map (some mb)) := (hD2.ext (ext_alloc _ _)).row.cell (i := 1) (by simp); have hFa := hD3.fl ⟨⟨s.data.toList, [], 0⟩, w2.heap.size, none, 0⟩ (by simp); have hFs : FS w3 B none 0 [] := hFa.fs; have hRw : Row w3 w2.heap.size 57 [.slice none 0 0, .int .i64 0] := hFa.row; have hnk : w2.heap.size ∉ rowOf none := (by simp [rowOf]); have e3 : w3.cell? ⟨w2.heap.size, 0, none⟩ = some (.slice none 0 0) := hRw.cell (i := 0) (by simp); have hRd : Rd w3 A (b.map bv) := (hro.out.keep (hro.out.keep (hr.ext (hx0.trans hS1)) hk2 (by simp [foot])) hS3.k (fun x hx => hx)); replace hD3 := Lib.hid hD3; clear hD2 hFa hq2)
    | (at_builtin; refine wpList_appf rfl (.tmp 54) (.tmp 55) rfl B (none) (0) (0) (([] : List UInt8)) rfl rfl hFs A n c b rfl hln.out hRd (by omega) (by have := hD3.out.lt d (by simp [foot]); have := hD3.out.ge.1; omega) ?_; intro A' c' w4 hF4 hk4 hro4; have e4 : w4.cell? ⟨w2.heap.size, 0, none⟩ = _ := (hRw.keep hk4 hnk).cell (i := 0) (by simp); have f4 := (hRw.keep hk4 hnk).fro 0))
  have hG1 : ∀ w', Done w B d mb L { (stepd S wrap64).2 with l := Dk.upd (may S.l s.data.toList) s.data.toList fun f => { f with b := f.b ++ b } } w' → G (.returned (errV (if r then 0 else 11))) w' := fun w' hd => hG.out _ _ (by
    rw [app_ok hnm.out hoff (by rw [hln.out]; exact hfull), ← hre.out]; exact ⟨rfl, hd⟩)
  have hbn := hln.out
  subst hbn
  have hus := hu
  have hsl := (stepd_l S wrap64).1
  have husd : (used (ins PF.nm ⟨s.data.toList, [], 0⟩ (stepd S wrap64).2.l) : Int) = used S.l := by
    rw [hsl]
    obtain ⟨m1, m2, e1, e2⟩ := ins_split PF.nm ⟨s.data.toList, [], 0⟩ S.l
    rw [e2, used_app, used_cons, e1, used_app]
    show ((used m1 + (0 + used m2) : Nat) : Int) = _
    omega
  have hdn := hD3.out.appended hF4 hk4 hro4 rfl (by
    show (used (ins PF.nm ⟨s.data.toList, [], 0⟩ (stepd S wrap64).2.l) : Int) + _ ≤ (stepd S wrap64).2.room
    rw [husd, (stepd_l S wrap64).2]; omega) (by show 0 + b.length ≤ _; omega)
  have hmay : may S.l s.data.toList = ins PF.nm ⟨s.data.toList, [], 0⟩ S.l := if_neg (by unfold Dk.has; rw [hhas.out]; simp)
  have hup := upd_L (g' := ⟨⟨s.data.toList, [] ++ b, 0⟩, w2.heap.size, A', c'⟩) (u := fun f => { f with b := f.b ++ b }) hD3.out.ls (fun z hz => hnn z (by simp [hz])) (fun z hz => hnn z (by simp [hz])) rfl rfl
  have hup2 : Dk.upd (may S.l s.data.toList) s.data.toList (fun f => { f with b := f.b ++ b }) = (l1 ++ ⟨⟨s.data.toList, [] ++ b, 0⟩, w2.heap.size, A', c'⟩ :: l2).map GF.f := by
    rw [hmay, ← hsl]; exact hup
  rw [hup2] at hG1
  have hgf := hG1 _ ⟨_, hdn.1, Stp.after (hx0.trans hS1) ((stp_d hk2).trans (hS3.trans hdn.2)), by rw [hLe]; simp; omega⟩
  rw [show ([] : List UInt8).length + b.length = b.length from Nat.zero_add _] at hgf
  clear hG hG1 hdn hup hup2 hmay hus h hD3 hT hF4 hFs
  cases r
  · go_wp2
    exact hgf
  · go_wp2
    exact hgf
theorem Done.of_ext {w w' : World} {B d mb : Nat} {L : List GF} {S : DS} (h : DiskAt w B d mb S L) (hx : Ext w w') : Done w B d mb L S w' := ⟨L, h.ext hx, Stp.of_ext hx, by omega⟩
theorem append_any (B d mb : Nat) (S : DS) (L : List GF) (s : ByteArray) (A : Option Addr) (n c : Nat) (b : List UInt8) (w : World) (h : DiskAt w B d mb S L) (hs : s.size ≤ 281474976710656) (hl : b.length = n) (hr : Rd w A (b.map bv)) (hro : Ap A b (foot d mb L))
    (hbd : (cont S s.data.toList).length + n ≤ 140737488355328) (hL : L.length < 281474976710656) :
    Calls Tryd.prog 7 #[.pointer (some ⟨d, 0, none⟩), .string s, .slice A n c] w fun e w' => e = .returned (errV (app wrap64 S s.data.toList b).1) ∧ Done w B d mb L (app wrap64 S s.data.toList b).2 w' := by
  have hno : (S.off = true ∨ nameOk s.data.toList = false ∨ (n : Int) > S.room - used S.l) → (app wrap64 S s.data.toList b).1 ≠ 0 → _ := fun hq hf => (append_no B d mb S L s A n c b w (Lib.hid h) hs (Lib.hid hl) (by omega) hf hq).mono fun e w' ⟨e1, e2, e3⟩ => (⟨e1, by rw [e3]; exact Done.of_ext h e2⟩ : e = Ending.returned (errV (app wrap64 S s.data.toList b).1) ∧ Done w B d mb L (app wrap64 S s.data.toList b).2 w')
  cases hnm : nameOk s.data.toList
  · exact hno (.inr (.inl hnm)) (by unfold app; rw [if_pos hnm]; simp)
  · cases ho : S.off
    · by_cases hf : (n : Int) > S.room - used S.l
      · exact hno (.inr (.inr hf)) (by unfold app; rw [if_neg (by rw [hnm]; simp), if_neg (by rw [ho]; simp), if_pos (by rw [hl]; exact hf)]; simp)
      · rcases hq : Dk.get S.l s.data.toList with _ | f
        · exact append_new B d mb S L s A n c b w (Lib.hid h) hs hl hr hro hbd hL hnm ho (by omega) hq
        · exact append_old B d mb S L s A n c b w (Lib.hid h) hs hl hr hro hbd hL hnm ho (by omega) (by unfold Dk.has; rw [hq]; rfl)
    · exact hno (.inl ho) (by unfold app; rw [if_neg (by rw [hnm]; simp), if_pos ho]; simp)
end Go.Proofs.YtkgnaabmcboffaaDoor
