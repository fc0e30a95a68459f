/-
  Texts of the lemmas below the claim, put together: DkF DkG DkH.
-/
import Derived.Test.YtjnbbfhoegeppaaGreatDoorMDkE
section
/-
  Walks of the disk: append, done.
-/
set_option linter.unusedSimpArgs false
set_option linter.unusedVariables false
namespace Go.Proofs.YtjnbbfhoegeppaaGreatDoor
open Go.RowKit Go.Cv Go.Cv.Dk
theorem app_ok {S : DS} {x b : List UInt8} (hx : nameOk x = true) (ho : S.off = false) (hr : (b.length : Int) ≤ S.room - used S.l) :
    app wrap64 S x b = (if (stepd S wrap64).1 then 0 else 11, { (stepd S wrap64).2 with l := Dk.upd (may S.l x) x fun f => { f with b := f.b ++ b } }) := by
  unfold app; rw [if_neg (by rw [hx]; simp), if_neg (by rw [ho]; simp), if_neg (by omega)]
/-- What is behind an append. -/
theorem DiskAt.appended {w w' w5 : World} {B d mb : Nat} {S : DS} {l1 l2 : List GF} {g : GF} {A' : Option Addr} {c' : Nat} {b : List UInt8} (h : DiskAt w B d mb S (l1 ++ g :: l2)) (hF : FS w' B A' c' (g.f.b ++ b)) (hk : Keep (rowOf g.A) w w') (ho : ∀ x ∈ rowOf A', x ∈ rowOf g.A ∨ w.heap.size ≤ x)
    (he : w5 = w'.setCell ⟨g.k, 0, none⟩ (.slice A' (g.f.b.length + b.length) c')) (hu : (used S.l : Int) + b.length ≤ S.room) (hlen47 : g.f.b.length + b.length ≤ 140737488355328) :
    DiskAt w5 B d mb { S with l := (l1 ++ ⟨{ g.f with b := g.f.b ++ b }, g.k, A', c'⟩ :: l2).map GF.f } (l1 ++ ⟨{ g.f with b := g.f.b ++ b }, g.k, A', c'⟩ :: l2) ∧
      Stp (foot d mb (l1 ++ g :: l2)) (foot d mb (l1 ++ ⟨{ g.f with b := g.f.b ++ b }, g.k, A', c'⟩ :: l2)) w w5 := by
  subst he
  have hg := h.fl g (by simp)
  have hnk := h.sep.of.2.1
  have hkg : g.k < w.heap.size := hg.row.lt
  have hrow := (hg.row.keep hk hnk).set 0 (.slice A' (g.f.b.length + b.length) c')
  have hk5 := Keep.setCell w' ⟨g.k, 0, none⟩ (.slice A' (g.f.b.length + b.length) c')
  have hk2 : Keep (g.k :: rowOf g.A) w (w'.setCell ⟨g.k, 0, none⟩ (.slice A' (g.f.b.length + b.length) c')) := (hk.mono (fun x hx => by simp [hx])).trans hk5 (fun x hx => .inl (by rw [List.mem_singleton.1 hx]; simp))
  have hlen : (g.f.b ++ b).length = g.f.b.length + b.length := by simp
  refine h.swap hk2 (fun x hx => .inl hx) rfl rfl ?_ ho rfl rfl ?_
  · refine FS.file (g := ⟨{ g.f with b := g.f.b ++ b }, g.k, A', c'⟩) (hF.keep hk5 fun x hx hm => ?_) ?_ ?_ hg.ge.1 (by rw [hlen]; exact hlen47)
    · have e := List.mem_singleton.1 hm
      rcases ho x hx with h1 | h1
      · rw [e] at h1; exact hnk h1
      · rw [e] at h1
        have h1 : w.heap.size ≤ g.k := h1
        omega
    · show Row _ g.k _ [.slice A' (g.f.b ++ b).length c', _]
      rw [hlen]
      exact hrow
    · have := hg.sy
      show g.f.sy ≤ (g.f.b ++ b).length
      omega
  · have hls := h.ls
    rw [List.map_append, List.map_cons] at hls ⊢
    have hus := h.ok.u
    have hsy := hg.sy
    refine ok_upd h.ok hls rfl ?_ ?_
    · show g.f.sy ≤ (g.f.b ++ b).length
      omega
    · rw [hls, used_app, used_cons] at hu
      show (used _ : Int) + ((g.f.b ++ b).length : Nat) + (used _ : Nat) ≤ S.room
      rw [hlen]
      omega
set_option maxRecDepth 4000 in
set_option maxHeartbeats 1600000 in
theorem append_old (B d mb : Nat) (S : DS) (L : List GF) (s : ByteArray) (A : Option Addr) (n c : Nat) (b : List UInt8) (w : World) (h : Hid (DiskAt w B d mb S L)) (hs : s.size ≤ 281474976710656) (hl : b.length = n) (hr : Rd w A (b.map bv)) (hro : Ap A b (foot d mb L))
    (hbd : (cont S s.data.toList).length + n ≤ 140737488355328) (hL : L.length < 281474976710656) (hnm : nameOk s.data.toList = true) (hoff : S.off = false) (hfull : (n : Int) ≤ S.room - used S.l) (hq : Dk.has S.l s.data.toList = true) :
    Calls Tryz.prog 27 #[.pointer (some ⟨d, 0, none⟩), .string s, .slice A n c] w fun e w' => e = .returned (errV (app wrap64 S s.data.toList b).1) ∧ Done w B d mb L (app wrap64 S s.data.toList b).2 w' := by
  refine calls_hid fun G hG => ?_
  have hN := named_any s w hs
  rw [hnm] at hN
  have hu := h.out.ok.u
  have hr1 := h.out.ok.r1
  have hr0 := h.out.ok.r0
  have hwr : IntKind.i64.wrap (S.room - (used S.l : Nat)) = S.room - (used S.l : Nat) := IntWalk.i64_in _ (by omega)
  obtain ⟨f, hget⟩ : ∃ f, Dk.get S.l s.data.toList = some f := Option.isSome_iff_exists.1 hq
  obtain ⟨l1, l2, g, hLe, hgf, hgn, h1, h2⟩ := h.out.isome hget
  replace hLe := Lib.hid hLe
  have hct : (cont S s.data.toList) = g.f.b := by unfold cont; rw [hget, hgf]
  rw [hct] at hbd
  clear hct hget hgf
  have hln := Lib.hid hl
  replace hro := Lib.hid hro
  replace hnm := Lib.hid hnm
  have hhas := Lib.hid hq
  clear hl hq
  have hT := fun w0 (hx : Ext w w0) => step_any B d mb S L w0 (h.out.ext hx)
  obtain ⟨r, hre⟩ : ∃ r, r = (stepd S wrap64).1 := ⟨_, rfl⟩
  rw [← hre] at hT
  replace hre := Lib.hid hre
  go_enter Tryz.func27, Tryz.ntmps27
  go_upto_region 5 with (go_at_call 62; with_reducible refine hN.mono ?_; rintro e w0 ⟨rfl, hx0⟩; have c2 : w0.cell? ⟨d, 2, none⟩ = some (.bool S.off) := (h.out.ext hx0).row.cell (i := 2) (by simp); rw [hoff] at c2)
  refine wp_region_sure (fun w' => Ext w0 w') (by kernel_rfl) (ext_drew _) ?_
  refine wpAnyS_go (i := 0) (some 21) (v := ?_) rfl rfl (by kernel_rfl) (by kernel_rfl) (by kernel_rfl) (fun _ _ _ h => h) (.inl ⟨by rfl, fun w hS => ?_⟩) ?_
  rotate_left
  · (try go_simp)
    refine ⟨?_, hS⟩
    with_reducible rfl
  simp only [Act.put, List.setIfInBounds_toArray, List.set_cons_zero, List.set_cons_succ]
  refine wpAnyS_go (i := 1) (some 22) (v := ?_) rfl rfl (by kernel_rfl) (by kernel_rfl) (by kernel_rfl) (fun _ _ _ h => h) (.inl ⟨by rfl, fun w hS => ?_⟩) ?_
  rotate_left
  · (try go_simp)
    refine ⟨?_, hS⟩
    with_reducible rfl
  simp only [Act.put, List.setIfInBounds_toArray, List.set_cons_zero, List.set_cons_succ]
  refine wpAnyS_go (i := 2) (some 23) (v := ?_) rfl rfl (by kernel_rfl) (by kernel_rfl) (by kernel_rfl) (fun _ _ _ h => h) (.inl ⟨by rfl, fun w hS => ?_⟩) ?_
  rotate_left
  · (try go_simp)
    refine ⟨?_, hS⟩
    with_reducible rfl
  simp only [Act.put, List.setIfInBounds_toArray, List.set_cons_zero, List.set_cons_succ]
  refine wpAnyS_go (i := 3) (some 24) (v := ?_) rfl rfl (by kernel_rfl) (by kernel_rfl) (by kernel_rfl) (fun _ _ _ h => h) (.inl ⟨by rfl, fun w hS => ?_⟩) ?_
  rotate_left
  · (try go_simp)
    refine ⟨?_, hS⟩
    with_reducible rfl
  simp only [Act.put, List.setIfInBounds_toArray, List.set_cons_zero, List.set_cons_succ]
  refine wpAnyS_go (i := 4) (some 25) (v := ?_) rfl rfl (by kernel_rfl) (by kernel_rfl) (by kernel_rfl) (fun _ _ _ h => h) (.inl ⟨by rfl, fun w hS => ?_⟩) ?_
  rotate_left
  · (try go_simp)
    refine ⟨?_, hS⟩
    with_reducible rfl
  simp only [Act.put, List.setIfInBounds_toArray, List.set_cons_zero, List.set_cons_succ]
  refine wpAnyS_go (i := 5) (some 26) (v := ?_) rfl rfl (by kernel_rfl) (by kernel_rfl) (by kernel_rfl) (fun _ _ _ h => h) (.inl ⟨by rfl, fun w hS => ?_⟩) ?_
  rotate_left
  · have e0 := (h.out.ext (hx0.trans hS)).row.cell (i := 0) (by simp)
    go_simp
    refine ⟨?_, hS⟩
    with_reducible rfl
  simp only [Act.put, List.setIfInBounds_toArray, List.set_cons_zero, List.set_cons_succ]
  refine wpAnyS_go (i := 6) (some 27) (v := ?_) rfl rfl (by kernel_rfl) (by kernel_rfl) (by kernel_rfl) (fun _ _ _ h => h) (.inl ⟨by rfl, fun w hS => ?_⟩) ?_
  rotate_left
  · (try go_simp)
    refine ⟨?_, hS⟩
    with_reducible rfl
  simp only [Act.put, List.setIfInBounds_toArray, List.set_cons_zero, List.set_cons_succ]
  refine wpAnyS_go (i := 7) (some 28) (v := ?_) rfl rfl (by kernel_rfl) (by kernel_rfl) (by kernel_rfl) (fun _ _ _ h => h) (.inl ⟨by rfl, fun w hS => ?_⟩) ?_
  rotate_left
  · go_simp
    change Calls _ _ _ _ _
    refine Calls.mono (used_any B d mb S L _ (h.out.ext (hx0.trans hS))) ?_
    rintro e w' ⟨rfl, hx⟩
    refine ⟨?_, hS.trans hx⟩
    with_reducible rfl
  simp only [Act.put, List.setIfInBounds_toArray, List.set_cons_zero, List.set_cons_succ]
  refine wpAnyS_go (i := 8) (some 29) (v := ?_) rfl rfl (by kernel_rfl) (by kernel_rfl) (by kernel_rfl) (fun _ _ _ h => h) (.inl ⟨by rfl, fun w hS => ?_⟩) ?_
  rotate_left
  · (try go_simp)
    refine ⟨?_, hS⟩
    with_reducible rfl
  simp only [Act.put, List.setIfInBounds_toArray, List.set_cons_zero, List.set_cons_succ]
  refine wpAnyS_go (i := 9) (some 30) (v := ?_) rfl rfl (by kernel_rfl) (by kernel_rfl) (by kernel_rfl) (fun _ _ _ h => h) (.inl ⟨by rfl, fun w hS => ?_⟩) ?_
  rotate_left
  · (try go_simp)
    refine ⟨?_, hS⟩
    with_reducible rfl
  simp only [Act.put, List.setIfInBounds_toArray, List.set_cons_zero, List.set_cons_succ]
  refine wpAnyS_go (i := 10) (some 20) (v := ?_) rfl rfl (by kernel_rfl) (by kernel_rfl) (by kernel_rfl) (fun _ _ _ h => h) (.inl ⟨by rfl, fun w hS => ?_⟩) ?_
  rotate_left
  · (try go_simp)
    refine ⟨?_, hS⟩
    with_reducible rfl
  simp only [Act.put, List.setIfInBounds_toArray, List.set_cons_zero, List.set_cons_succ]
  refine wpAnyS_done (by kernel_rfl) fun w1 hS1 => ?_
  go_upto_region 13 with (first
    | (go_at_call 63; (with_reducible refine (hT w1 (hx0.trans hS1)).mono ?_); rintro e w2 ⟨rfl, hD2, hk2⟩; have c1 : w2.cell? ⟨d, 1, none⟩ = some (.map (some mb)) := hD2.row.cell (i := 1) (by simp); rw [hLe.out] at hD2; have hlk := (hD2.map.look' (s := s) (by unfold maxLen; omega) (by rw [hgn]; exact h1) hgn).2; have hFa := hD2.fl g (by simp); have hFs := hFa.fs; have hRw := hFa.row; have hnk := hD2.sep.of.2.1; have e2 : w2.cell? ⟨g.k, 0, none⟩ = some (.slice g.A g.f.b.length g.c) := hFa.row.cell (i := 0) (by simp); have hRd : Rd w2 A (b.map bv) := (hro.out.keep (hr.ext (hx0.trans hS1)) hk2 (by simp [foot])); have hD3 := Lib.hid hD2; clear hD2 hFa)
    | (at_builtin; refine wpList_appf rfl (.tmp 54) (.tmp 55) rfl B (g.A) (g.f.b.length) (g.c) (g.f.b) rfl rfl hFs A n c b rfl hln.out hRd (by omega) (by have := hD3.out.lt d (by simp [foot]); have := hD3.out.ge.1; omega) ?_; intro A' c' w4 hF4 hk4 hro4; have e4 : w4.cell? ⟨g.k, 0, none⟩ = _ := (hRw.keep hk4 hnk).cell (i := 0) (by simp); have f4 := (hRw.keep hk4 hnk).fro 0))
  have hG1 : ∀ w', Done w B d mb L { (stepd S wrap64).2 with l := Dk.upd (may S.l s.data.toList) s.data.toList fun f => { f with b := f.b ++ b } } w' → G (.returned (errV (if r then 0 else 11))) w' := fun w' hd => hG.out _ _ (by
    rw [app_ok hnm.out hoff (by rw [hln.out]; exact hfull), ← hre.out]; exact ⟨rfl, hd⟩)
  have hbn := hln.out
  subst hbn
  have hus := hu
  rw [← (stepd_l S wrap64).2, ← (stepd_l S wrap64).1] at hus
  have hdn := hD3.out.appended hF4 hk4 hro4 rfl (by rw [(stepd_l S wrap64).1, (stepd_l S wrap64).2]; omega) hbd
  have hmay : may S.l s.data.toList = S.l := if_pos hhas.out
  have hls := h.out.ls
  rw [hLe.out] at hls
  have hup := upd_L (g' := ⟨{ g.f with b := g.f.b ++ b }, g.k, A', c'⟩) (u := fun f => { f with b := f.b ++ b }) hls h1 h2 hgn rfl
  have hgf := hG1 _ ⟨_, (by rw [hmay, hup]; exact hdn.1), (by rw [hLe.out]; exact Stp.after (hx0.trans hS1) ((stp_d hk2).trans hdn.2)), by rw [hLe.out]; simp⟩
  clear hG hG1 hdn hup hls hmay hus h hD3 hT hF4 hFs
  cases r
  · go_wp2
    exact hgf
  · go_wp2
    exact hgf
set_option maxRecDepth 4000 in
set_option maxHeartbeats 1600000 in
theorem append_new (B d mb : Nat) (S : DS) (L : List GF) (s : ByteArray) (A : Option Addr) (n c : Nat) (b : List UInt8) (w : World) (h : Hid (DiskAt w B d mb S L)) (hs : s.size ≤ 281474976710656) (hl : b.length = n) (hr : Rd w A (b.map bv)) (hro : Ap A b (foot d mb L))
    (hbd : (cont S s.data.toList).length + n ≤ 140737488355328) (hL : L.length < 281474976710656) (hnm : nameOk s.data.toList = true) (hoff : S.off = false) (hfull : (n : Int) ≤ S.room - used S.l) (hq : Dk.get S.l s.data.toList = none) :
    Calls Tryz.prog 27 #[.pointer (some ⟨d, 0, none⟩), .string s, .slice A n c] w fun e w' => e = .returned (errV (app wrap64 S s.data.toList b).1) ∧ Done w B d mb L (app wrap64 S s.data.toList b).2 w' := by
  refine calls_hid fun G hG => ?_
  have hN := named_any s w hs
  rw [hnm] at hN
  have hu := h.out.ok.u
  have hr1 := h.out.ok.r1
  have hr0 := h.out.ok.r0
  have hwr : IntKind.i64.wrap (S.room - (used S.l : Nat)) = S.room - (used S.l : Nat) := IntWalk.i64_in _ (by omega)

  have hln := Lib.hid hl
  replace hro := Lib.hid hro
  replace hnm := Lib.hid hnm
  have hhas := Lib.hid hq
  clear hl hq
  have hT := fun w0 (hx : Ext w w0) => step_any B d mb S L w0 (h.out.ext hx)
  obtain ⟨r, hre⟩ : ∃ r, r = (stepd S wrap64).1 := ⟨_, rfl⟩
  rw [← hre] at hT
  replace hre := Lib.hid hre
  go_enter Tryz.func27, Tryz.ntmps27
  go_upto_region 5 with (go_at_call 62; with_reducible refine hN.mono ?_; rintro e w0 ⟨rfl, hx0⟩; have c2 : w0.cell? ⟨d, 2, none⟩ = some (.bool S.off) := (h.out.ext hx0).row.cell (i := 2) (by simp); rw [hoff] at c2)
  refine wp_region_sure (fun w' => Ext w0 w') (by kernel_rfl) (ext_drew _) ?_
  refine wpAnyS_go (i := 0) (some 21) (v := ?_) rfl rfl (by kernel_rfl) (by kernel_rfl) (by kernel_rfl) (fun _ _ _ h => h) (.inl ⟨by rfl, fun w hS => ?_⟩) ?_
  rotate_left
  · (try go_simp)
    refine ⟨?_, hS⟩
    with_reducible rfl
  simp only [Act.put, List.setIfInBounds_toArray, List.set_cons_zero, List.set_cons_succ]
  refine wpAnyS_go (i := 1) (some 22) (v := ?_) rfl rfl (by kernel_rfl) (by kernel_rfl) (by kernel_rfl) (fun _ _ _ h => h) (.inl ⟨by rfl, fun w hS => ?_⟩) ?_
  rotate_left
  · (try go_simp)
    refine ⟨?_, hS⟩
    with_reducible rfl
  simp only [Act.put, List.setIfInBounds_toArray, List.set_cons_zero, List.set_cons_succ]
  refine wpAnyS_go (i := 2) (some 23) (v := ?_) rfl rfl (by kernel_rfl) (by kernel_rfl) (by kernel_rfl) (fun _ _ _ h => h) (.inl ⟨by rfl, fun w hS => ?_⟩) ?_
  rotate_left
  · (try go_simp)
    refine ⟨?_, hS⟩
    with_reducible rfl
  simp only [Act.put, List.setIfInBounds_toArray, List.set_cons_zero, List.set_cons_succ]
  refine wpAnyS_go (i := 3) (some 24) (v := ?_) rfl rfl (by kernel_rfl) (by kernel_rfl) (by kernel_rfl) (fun _ _ _ h => h) (.inl ⟨by rfl, fun w hS => ?_⟩) ?_
  rotate_left
  · (try go_simp)
    refine ⟨?_, hS⟩
    with_reducible rfl
  simp only [Act.put, List.setIfInBounds_toArray, List.set_cons_zero, List.set_cons_succ]
  refine wpAnyS_go (i := 4) (some 25) (v := ?_) rfl rfl (by kernel_rfl) (by kernel_rfl) (by kernel_rfl) (fun _ _ _ h => h) (.inl ⟨by rfl, fun w hS => ?_⟩) ?_
  rotate_left
  · (try go_simp)
    refine ⟨?_, hS⟩
    with_reducible rfl
  simp only [Act.put, List.setIfInBounds_toArray, List.set_cons_zero, List.set_cons_succ]
  refine wpAnyS_go (i := 5) (some 26) (v := ?_) rfl rfl (by kernel_rfl) (by kernel_rfl) (by kernel_rfl) (fun _ _ _ h => h) (.inl ⟨by rfl, fun w hS => ?_⟩) ?_
  rotate_left
  · have e0 := (h.out.ext (hx0.trans hS)).row.cell (i := 0) (by simp)
    go_simp
    refine ⟨?_, hS⟩
    with_reducible rfl
  simp only [Act.put, List.setIfInBounds_toArray, List.set_cons_zero, List.set_cons_succ]
  refine wpAnyS_go (i := 6) (some 27) (v := ?_) rfl rfl (by kernel_rfl) (by kernel_rfl) (by kernel_rfl) (fun _ _ _ h => h) (.inl ⟨by rfl, fun w hS => ?_⟩) ?_
  rotate_left
  · (try go_simp)
    refine ⟨?_, hS⟩
    with_reducible rfl
  simp only [Act.put, List.setIfInBounds_toArray, List.set_cons_zero, List.set_cons_succ]
  refine wpAnyS_go (i := 7) (some 28) (v := ?_) rfl rfl (by kernel_rfl) (by kernel_rfl) (by kernel_rfl) (fun _ _ _ h => h) (.inl ⟨by rfl, fun w hS => ?_⟩) ?_
  rotate_left
  · go_simp
    change Calls _ _ _ _ _
    refine Calls.mono (used_any B d mb S L _ (h.out.ext (hx0.trans hS))) ?_
    rintro e w' ⟨rfl, hx⟩
    refine ⟨?_, hS.trans hx⟩
    with_reducible rfl
  simp only [Act.put, List.setIfInBounds_toArray, List.set_cons_zero, List.set_cons_succ]
  refine wpAnyS_go (i := 8) (some 29) (v := ?_) rfl rfl (by kernel_rfl) (by kernel_rfl) (by kernel_rfl) (fun _ _ _ h => h) (.inl ⟨by rfl, fun w hS => ?_⟩) ?_
  rotate_left
  · (try go_simp)
    refine ⟨?_, hS⟩
    with_reducible rfl
  simp only [Act.put, List.setIfInBounds_toArray, List.set_cons_zero, List.set_cons_succ]
  refine wpAnyS_go (i := 9) (some 30) (v := ?_) rfl rfl (by kernel_rfl) (by kernel_rfl) (by kernel_rfl) (fun _ _ _ h => h) (.inl ⟨by rfl, fun w hS => ?_⟩) ?_
  rotate_left
  · (try go_simp)
    refine ⟨?_, hS⟩
    with_reducible rfl
  simp only [Act.put, List.setIfInBounds_toArray, List.set_cons_zero, List.set_cons_succ]
  refine wpAnyS_go (i := 10) (some 20) (v := ?_) rfl rfl (by kernel_rfl) (by kernel_rfl) (by kernel_rfl) (fun _ _ _ h => h) (.inl ⟨by rfl, fun w hS => ?_⟩) ?_
  rotate_left
  · (try go_simp)
    refine ⟨?_, hS⟩
    with_reducible rfl
  simp only [Act.put, List.setIfInBounds_toArray, List.set_cons_zero, List.set_cons_succ]
  refine wpAnyS_done (by kernel_rfl) fun w1 hS1 => ?_
  go_upto_region 13 with (first
    | (go_at_call 63; (with_reducible refine (hT w1 (hx0.trans hS1)).mono ?_); rintro e w2 ⟨rfl, hD2, hk2⟩; have c1 : w2.cell? ⟨d, 1, none⟩ = some (.map (some mb)) := hD2.row.cell (i := 1) (by simp); have hq2 : Dk.get (stepd S wrap64).2.l s.data.toList = none := (by rw [(stepd_l S wrap64).1]; exact hhas.out); have hlk := (hD2.map.look (s := s) (by unfold maxLen; omega) (hD2.inone hq2)).2; obtain ⟨w3, l1, l2, hst, hLe, hD3, hS3, hnn⟩ := hD2.add hs hnm.out hq2 (by unfold maxLen; omega); have c1b : (w2.alloc (.cells #[.slice none 0 0, .int .i64 0] 96)).cell? ⟨d, 1, none⟩ = some (.map (some mb)) := (hD2.ext (ext_alloc _ _)).row.cell (i := 1) (by simp); have hFa := hD3.fl ⟨⟨s.data.toList, [], 0⟩, w2.heap.size, none, 0⟩ (by simp); have hFs : FS w3 B none 0 [] := hFa.fs; have hRw : Row w3 w2.heap.size 96 [.slice none 0 0, .int .i64 0] := hFa.row; have hnk : w2.heap.size ∉ rowOf none := (by simp [rowOf]); have e3 : w3.cell? ⟨w2.heap.size, 0, none⟩ = some (.slice none 0 0) := hRw.cell (i := 0) (by simp); have hRd : Rd w3 A (b.map bv) := (hro.out.keep (hro.out.keep (hr.ext (hx0.trans hS1)) hk2 (by simp [foot])) hS3.k (fun x hx => hx)); replace hD3 := Lib.hid hD3; clear hD2 hFa hq2)
    | (at_builtin; refine wpList_appf rfl (.tmp 54) (.tmp 55) rfl B (none) (0) (0) (([] : List UInt8)) rfl rfl hFs A n c b rfl hln.out hRd (by omega) (by have := hD3.out.lt d (by simp [foot]); have := hD3.out.ge.1; omega) ?_; intro A' c' w4 hF4 hk4 hro4; have e4 : w4.cell? ⟨w2.heap.size, 0, none⟩ = _ := (hRw.keep hk4 hnk).cell (i := 0) (by simp); have f4 := (hRw.keep hk4 hnk).fro 0))
  have hG1 : ∀ w', Done w B d mb L { (stepd S wrap64).2 with l := Dk.upd (may S.l s.data.toList) s.data.toList fun f => { f with b := f.b ++ b } } w' → G (.returned (errV (if r then 0 else 11))) w' := fun w' hd => hG.out _ _ (by
    rw [app_ok hnm.out hoff (by rw [hln.out]; exact hfull), ← hre.out]; exact ⟨rfl, hd⟩)
  have hbn := hln.out
  subst hbn
  have hus := hu
  have hsl := (stepd_l S wrap64).1
  have husd : (used (ins PF.nm ⟨s.data.toList, [], 0⟩ (stepd S wrap64).2.l) : Int) = used S.l := by
    rw [hsl]
    obtain ⟨m1, m2, e1, e2⟩ := ins_split PF.nm ⟨s.data.toList, [], 0⟩ S.l
    rw [e2, used_app, used_cons, e1, used_app]
    show ((used m1 + (0 + used m2) : Nat) : Int) = _
    omega
  have hdn := hD3.out.appended hF4 hk4 hro4 rfl (by
    show (used (ins PF.nm ⟨s.data.toList, [], 0⟩ (stepd S wrap64).2.l) : Int) + _ ≤ (stepd S wrap64).2.room
    rw [husd, (stepd_l S wrap64).2]; omega) (by show 0 + b.length ≤ _; omega)
  have hmay : may S.l s.data.toList = ins PF.nm ⟨s.data.toList, [], 0⟩ S.l := if_neg (by unfold Dk.has; rw [hhas.out]; simp)
  have hup := upd_L (g' := ⟨⟨s.data.toList, [] ++ b, 0⟩, w2.heap.size, A', c'⟩) (u := fun f => { f with b := f.b ++ b }) hD3.out.ls (fun z hz => hnn z (by simp [hz])) (fun z hz => hnn z (by simp [hz])) rfl rfl
  have hup2 : Dk.upd (may S.l s.data.toList) s.data.toList (fun f => { f with b := f.b ++ b }) = (l1 ++ ⟨⟨s.data.toList, [] ++ b, 0⟩, w2.heap.size, A', c'⟩ :: l2).map GF.f := by
    rw [hmay, ← hsl]; exact hup
  rw [hup2] at hG1
  have hgf := hG1 _ ⟨_, hdn.1, Stp.after (hx0.trans hS1) ((stp_d hk2).trans (hS3.trans hdn.2)), by rw [hLe]; simp; omega⟩
  rw [show ([] : List UInt8).length + b.length = b.length from Nat.zero_add _] at hgf
  clear hG hG1 hdn hup hup2 hmay hus h hD3 hT hF4 hFs
  cases r
  · go_wp2
    exact hgf
  · go_wp2
    exact hgf
theorem Done.of_ext {w w' : World} {B d mb : Nat} {L : List GF} {S : DS} (h : DiskAt w B d mb S L) (hx : Ext w w') : Done w B d mb L S w' := ⟨L, h.ext hx, Stp.of_ext hx, by omega⟩
theorem append_any (B d mb : Nat) (S : DS) (L : List GF) (s : ByteArray) (A : Option Addr) (n c : Nat) (b : List UInt8) (w : World) (h : DiskAt w B d mb S L) (hs : s.size ≤ 281474976710656) (hl : b.length = n) (hr : Rd w A (b.map bv)) (hro : Ap A b (foot d mb L))
    (hbd : (cont S s.data.toList).length + n ≤ 140737488355328) (hL : L.length < 281474976710656) :
    Calls Tryz.prog 27 #[.pointer (some ⟨d, 0, none⟩), .string s, .slice A n c] w fun e w' => e = .returned (errV (app wrap64 S s.data.toList b).1) ∧ Done w B d mb L (app wrap64 S s.data.toList b).2 w' := by
  have hno : (S.off = true ∨ nameOk s.data.toList = false ∨ (n : Int) > S.room - used S.l) → (app wrap64 S s.data.toList b).1 ≠ 0 → _ := fun hq hf => (append_no B d mb S L s A n c b w (Lib.hid h) hs (Lib.hid hl) (by omega) hf hq).mono fun e w' ⟨e1, e2, e3⟩ => (⟨e1, by rw [e3]; exact Done.of_ext h e2⟩ : e = Ending.returned (errV (app wrap64 S s.data.toList b).1) ∧ Done w B d mb L (app wrap64 S s.data.toList b).2 w')
  cases hnm : nameOk s.data.toList
  · exact hno (.inr (.inl hnm)) (by unfold app; rw [if_pos hnm]; simp)
  · cases ho : S.off
    · by_cases hf : (n : Int) > S.room - used S.l
      · exact hno (.inr (.inr hf)) (by unfold app; rw [if_neg (by rw [hnm]; simp), if_neg (by rw [ho]; simp), if_pos (by rw [hl]; exact hf)]; simp)
      · rcases hq : Dk.get S.l s.data.toList with _ | f
        · exact append_new B d mb S L s A n c b w (Lib.hid h) hs hl hr hro hbd hL hnm ho (by omega) hq
        · exact append_old B d mb S L s A n c b w (Lib.hid h) hs hl hr hro hbd hL hnm ho (by omega) (by unfold Dk.has; rw [hq]; rfl)
    · exact hno (.inl ho) (by unfold app; rw [if_neg (by rw [hnm]; simp), if_pos ho]; simp)
end Go.Proofs.YtjnbbfhoegeppaaGreatDoor
end
section
/-
  Walks of the disk: the power comes back.
-/
set_option linter.unusedSimpArgs false
set_option linter.unusedVariables false
namespace Go.Proofs.YtjnbbfhoegeppaaGreatDoor
open Go.RowKit Go.Cv Go.Cv.Dk
def cutG (keep : Int) (g : GF) : GF := ⟨cutf keep g.f, g.k, g.A, (cutf keep g.f).b.length⟩
def mid (keep : Int) (L : List GF) (left : Lit → Bool) : List GF := L.map fun g => if left (.string g.f.nm) then g else cutG keep g
theorem mid_all {keep : Int} {L : List GF} {left : Lit → Bool} (h : ∀ g ∈ L, left (.string g.f.nm) = true) : mid keep L left = L := by
  unfold mid
  exact (List.map_congr_left fun z hz => by rw [h z hz]; rfl).trans (List.map_id' L)
theorem mid_none {keep : Int} {L : List GF} {left : Lit → Bool} (h : ∀ g ∈ L, left (.string g.f.nm) = false) : mid keep L left = L.map (cutG keep) := by
  unfold mid
  exact List.map_congr_left fun z hz => by rw [h z hz]; rfl
theorem mid_step {keep : Int} {l1 l2 : List GF} {g : GF} {left : Lit → Bool} (h1 : ∀ z ∈ l1, z.f.nm ≠ g.f.nm) (h2 : ∀ z ∈ l2, z.f.nm ≠ g.f.nm) (hl : left (.string g.f.nm) = true) :
    mid keep (l1 ++ g :: l2) left = mid keep l1 left ++ g :: mid keep l2 left ∧ mid keep (l1 ++ g :: l2) (fun z => left z && !z.sameKey (.string g.f.nm)) = mid keep l1 left ++ cutG keep g :: mid keep l2 left := by
  have e : ∀ l : List GF, (∀ z ∈ l, z.f.nm ≠ g.f.nm) → mid keep l (fun z => left z && !z.sameKey (.string g.f.nm)) = mid keep l left := fun l hl => List.map_congr_left fun z hz => by
    have : (Lit.string z.f.nm).sameKey (.string g.f.nm) = false := by simpa [Lit.sameKey] using hl z hz
    simp [this]
  constructor
  · unfold mid
    rw [List.map_append, List.map_cons, hl]; rfl
  · show List.map _ (l1 ++ g :: l2) = _
    rw [List.map_append, List.map_cons]
    have e1 := e l1 h1
    have e2 := e l2 h2
    unfold mid at e1 e2 ⊢
    rw [e1, e2]
    simp [Lit.sameKey]
theorem mid_ents {keep : Int} {L : List GF} {left : Lit → Bool} : ents (mid keep L left) = ents L := by
  unfold ents mid
  rw [List.map_map]
  refine List.map_congr_left fun z hz => ?_
  show (Lit.string (if left (.string z.f.nm) then z else cutG keep z).f.nm, DataW.lit (Lit.int .i64 (if left (.string z.f.nm) then z else cutG keep z).k)) = _
  split <;> rfl
theorem mid_foot {keep : Int} {L : List GF} {left : Lit → Bool} {d mb : Nat} : foot d mb (mid keep L left) = foot d mb L := by
  unfold foot mid
  congr 2
  rw [List.flatMap_map]
  have e : (fun g : GF => ownB (if left (.string g.f.nm) = true then g else cutG keep g)) = ownB := by
    funext z
    split <;> rfl
  rw [e]
theorem mid_len {keep : Int} {L : List GF} {left : Lit → Bool} : (mid keep L left).length = L.length := by simp [mid]
/-- How much stays of a file. -/
def sizeF (keep : Int) (f : PF) : Nat := f.sy + (max keep 0).toNat % (f.b.length - f.sy + 1)
theorem sizeF_le (keep : Int) {f : PF} (h : f.sy ≤ f.b.length) : sizeF keep f ≤ f.b.length := by
  unfold sizeF
  have := Nat.mod_lt (max keep 0).toNat (show 0 < f.b.length - f.sy + 1 by omega)
  omega
theorem cutf_eq (keep : Int) (f : PF) : cutf keep f = { f with b := f.b.take (sizeF keep f), sy := sizeF keep f } := rfl
theorem cutf_len (keep : Int) {f : PF} (h : f.sy ≤ f.b.length) : (cutf keep f).b.length = sizeF keep f := by
  rw [cutf_eq]
  show (f.b.take (sizeF keep f)).length = _
  rw [List.length_take]; have := sizeF_le keep h; omega
set_option maxHeartbeats 800000 in
theorem power_on (B d mb : Nat) (S : DS) (L : List GF) (keep : Int) (w : World) (h : DiskAt w B d mb S L) (ho : S.off = false) :
    Calls Tryz.prog 32 #[.pointer (some ⟨d, 0, none⟩), .int .i64 keep] w fun e w' => e = .returned (.tuple #[]) ∧ DiskAt w' B d mb { S with bud := -1 } L ∧ Keep [d] w w' := by
  refine calls_hid fun G hG => ?_
  have c3 : w.cell? ⟨d, 3, none⟩ = some (.int .i64 S.bud) := h.row.cell (i := 3) (by simp)
  have f3 := h.row.fro 3
  have hk := Keep.setCell w ⟨d, 3, none⟩ (.int .i64 (-1))
  have hr := h.row.set 3 (.int .i64 (-1))
  have hok : DS.Ok { S with bud := -1 } := ⟨h.ok.r0, h.ok.r1, by show (-1 : Int) ≤ -1; omega, by show (-1 : Int) ≤ _; omega, h.ok.u, h.ok.nm, h.ok.sy, h.ok.ris⟩
  have d2 : (w.setCell ⟨d, 3, none⟩ (.int .i64 (-1))).cell? ⟨d, 2, none⟩ = some (.bool S.off) := hr.cell (i := 2) (by simp)
  rw [ho] at d2
  have hg : G (.returned (.tuple #[])) (w.setCell ⟨d, 3, none⟩ (.int .i64 (-1))) := hG.out _ _ ⟨rfl, h.turn (S' := { S with bud := -1 }) hk hr rfl hok, hk⟩
  clear hG h hk hr hok
  go_enter Tryz.func32, Tryz.ntmps32
  go_wp2
  go_end0
  exact hg
theorem FS.cut {w : World} {B : Nat} {A : Option Addr} {c z : Nat} {b : List UInt8} (h : FS w B A c b) (hz : z ≤ b.length) : FS w B A z (b.take z) := by
  have hl : (b.take z).length = z := by rw [List.length_take]; omega
  have := h.nc
  refine ⟨?_, by omega, by have := h.cm; omega, .inr hl.symm, fun e => ?_, h.ge⟩
  · rw [List.map_take]; exact h.rd.take z
  · have := (h.nil e).1
    omega
/-- A file is cut off behind z bytes, all of them synced. -/
theorem DiskAt.cutAt {w w' : World} {B d mb : Nat} {S : DS} {l1 l2 : List GF} {g : GF} {z : Nat} (h : DiskAt w B d mb S (l1 ++ g :: l2)) (hz : z ≤ g.f.b.length)
    (he : w' = (w.setCell ⟨g.k, 0, none⟩ (.slice g.A z z)).setCell ⟨g.k, 1, none⟩ (.int .i64 (z : Nat))) :
    DiskAt w' B d mb { S with l := (l1 ++ ⟨{ g.f with b := g.f.b.take z, sy := z }, g.k, g.A, z⟩ :: l2).map GF.f } (l1 ++ ⟨{ g.f with b := g.f.b.take z, sy := z }, g.k, g.A, z⟩ :: l2) ∧
      foot d mb (l1 ++ ⟨{ g.f with b := g.f.b.take z, sy := z }, g.k, g.A, z⟩ :: l2) = foot d mb (l1 ++ g :: l2) ∧ Keep [g.k] w w' := by
  subst he
  have hg := h.fl g (by simp)
  have hl : (g.f.b.take z).length = z := by rw [List.length_take]; omega
  have hk := (Keep.setCell w ⟨g.k, 0, none⟩ (.slice g.A z z)).same (Keep.setCell (w.setCell ⟨g.k, 0, none⟩ (.slice g.A z z)) ⟨g.k, 1, none⟩ (.int .i64 (z : Nat)))
  have hr := (hg.row.set 0 (.slice g.A z z)).set 1 (.int .i64 (z : Nat))
  have hls := h.ls
  have hsw := h.swap (g' := ⟨{ g.f with b := g.f.b.take z, sy := z }, g.k, g.A, z⟩) (S' := { S with l := (l1 ++ ⟨{ g.f with b := g.f.b.take z, sy := z }, g.k, g.A, z⟩ :: l2).map GF.f }) hk (fun x hx => .inl (by rw [List.mem_singleton.1 hx]; simp [ownB])) rfl rfl
    (FS.file (g := ⟨{ g.f with b := g.f.b.take z, sy := z }, g.k, g.A, z⟩) ((hg.fs.cut hz).keep hk fun x hx hm => by
      rw [List.mem_singleton.1 hm] at hx
      exact h.sep.of.2.1 hx) (by show Row _ g.k _ [.slice g.A (g.f.b.take z).length z, _]; rw [hl]; exact hr) (by show z ≤ (g.f.b.take z).length; omega) hg.ge.1 (by have := hg.len; show (g.f.b.take z).length ≤ _; omega))
    (fun x hx => .inl hx) rfl rfl (by
      rw [List.map_append, List.map_cons] at hls ⊢
      refine ok_upd h.ok hls rfl (by show z ≤ (g.f.b.take z).length; omega) ?_
      have hu := h.ok.u
      rw [hls, used_app, used_cons] at hu
      show (used _ : Int) + ((g.f.b.take z).length : Nat) + (used _ : Nat) ≤ S.room
      omega)
  refine ⟨hsw.1, ?_, hk⟩
  unfold foot
  rw [List.flatMap_append, List.flatMap_cons, List.flatMap_append, List.flatMap_cons]
  rfl
set_option maxRecDepth 4000 in
set_option maxHeartbeats 1600000 in
theorem power_off (B d mb : Nat) (S : DS) (L : List GF) (keep : Int) (w : World) (h : Hid (DiskAt w B d mb S L)) (hkp : -9223372036854775808 ≤ keep ∧ keep ≤ 9223372036854775807) (ho : S.off = true) :
    Calls Tryz.prog 32 #[.pointer (some ⟨d, 0, none⟩), .int .i64 keep] w fun e w' => e = .returned (.tuple #[]) ∧ DiskAt w' B d mb { S with bud := -1, off := false, l := S.l.map (cutf keep) } (L.map (cutG keep)) ∧ Stp (foot d mb L) (foot d mb (L.map (cutG keep))) w w' := by
  refine calls_hid fun G hG => ?_
  have c3 : w.cell? ⟨d, 3, none⟩ = some (.int .i64 S.bud) := h.out.row.cell (i := 3) (by simp)
  have f3 := h.out.row.fro 3
  have hr1 := h.out.row.set 3 (.int .i64 (-1))
  have hk1 := Keep.setCell w ⟨d, 3, none⟩ (.int .i64 (-1))
  have d2 : (w.setCell ⟨d, 3, none⟩ (.int .i64 (-1))).cell? ⟨d, 2, none⟩ = some (.bool S.off) := hr1.cell (i := 2) (by simp)
  rw [ho] at d2
  have g2 := Row.fro hr1 2
  have hr2 := Row.set hr1 2 (.bool false)
  have hk2 := Keep.setCell (w.setCell ⟨d, 3, none⟩ (.int .i64 (-1))) ⟨d, 2, none⟩ (.bool false)
  have hok : DS.Ok { S with bud := -1, off := false } := ⟨h.out.ok.r0, h.out.ok.r1, by show (-1 : Int) ≤ -1; omega, by show (-1 : Int) ≤ _; omega, h.out.ok.u, h.out.ok.nm, h.out.ok.sy, h.out.ok.ris⟩
  have hD2 := h.out.turn (S' := { S with bud := -1, off := false }) (hk1.same hk2) hr2 rfl hok
  have hS2 : Stp (foot d mb L) (foot d mb L) w _ := stp_d (mb := mb) (L := L) (hk1.same hk2)
  generalize hW : (w.setCell ⟨d, 3, none⟩ (.int .i64 (-1))).setCell ⟨d, 2, none⟩ (.bool false) = W at *
  have d1 : W.cell? ⟨d, 1, none⟩ = some (.map (some mb)) := hD2.row.cell (i := 1) (by simp)
  have hown := hD2.map
  have hlt := Lib.hid hD2.lt
  have hris := Lib.hid hD2.map.ris
  replace hD2 := Lib.hid hD2
  replace hS2 := Lib.hid hS2
  clear hok hr1 hr2 hk1 hk2
  unfold MapAt at hown
  go_enter Tryz.func32, Tryz.ntmps32
  go_wp2_with (first
   | (rw [hW])
   | (at_range; refine wpList_range_own _ rfl _ 110 rfl 9 91 strK Tryz.underlying110 RF mb L.length (.map (ents L)) rfl hown ?_; intro w0 hrg0 hg0 hs0))
  go_frame
  go_loopw [5] (fun t wr => ∃ (left : Lit → Bool) (cnt : Nat), wr.ranges Tryz.prog 9 RF mb W.heap.size L.length (.map (ents L)) left cnt ∧ Hid (DiskAt wr B d mb { S with bud := -1, off := false, l := (mid keep L left).map GF.f } (mid keep L left)) ∧ Hid (Stp (foot d mb L) (foot d mb L) W wr)) (fun _ wr => wr.rangeLeft mb W.heap.size)
  case atStart =>
    refine ⟨_, _, hrg0, Lib.hid ?_, Lib.hid (Stp.of_ext (ext_grown hg0))⟩
    rw [mid_all has_all, ← h.out.ls]
    exact hD2.out.ext (ext_grown hg0)
  case round =>
    obtain ⟨left, cnt, hrg, hDr, hSr⟩ := hrel
    go_wp2_with (at_next; refine wpList_next_files rfl _ rfl mb W.heap.size L.length L left cnt rfl hrg ?_ ?_)
    · intro hdone
      have hm := mid_none (keep := keep) hdone
      have hDd := hDr.out
      rw [hm] at hDd
      have hgg := hG.out _ _ ⟨rfl, (by
        have e : S.l.map (cutf keep) = (L.map (cutG keep)).map GF.f := by rw [h.out.ls, List.map_map, List.map_map]; rfl
        rw [e]; exact hDd), (by
        have e : foot d mb (L.map (cutG keep)) = foot d mb L := by rw [← hm]; exact mid_foot
        rw [e]; exact hS2.out.trans hSr.out)⟩
      clear hDd hm
      go_wp2
      go_end0
      exact hgg
    · intro l1 l2 g s w' cnt' hL hnm hl hrg' hlt' hk hen
      have hrs := hris.out
      rw [hL.out] at hrs
      have hst := mid_step (keep := keep) (left := left) (ris_after hrs).1 (ris_after hrs).2 hl.out
      have hrne : ∀ x ∈ foot d mb L, x ∉ [W.heap.size] := fun x hx hm => by
        have := hlt.out x hx
        rw [List.mem_singleton.1 hm] at this
        omega
      have hD' := hDr.out.keep hk (by rw [mid_foot]; exact hrne)
      have hDg := hD'
      rw [hL.out, hst.1] at hDg
      have hFg := hDg.fl g (by simp)
      have hS' : Stp (foot d mb L) (foot d mb L) W w' := ⟨hSr.out.k.trans hk (fun x hx => .inr (by rw [List.mem_singleton.1 hx]; exact Nat.le_refl _)), fun x hx => .inl hx⟩
      obtain ⟨n, hn⟩ : ∃ n, n = g.f.b.length := ⟨_, rfl⟩
      obtain ⟨u, hu⟩ : ∃ u, n = g.f.sy + u := ⟨n - g.f.sy, by have := hFg.sy; omega⟩
      obtain ⟨q, hq⟩ : ∃ q, q = (max keep 0).toNat % (u + 1) := ⟨_, rfl⟩
      obtain ⟨y, hy⟩ : ∃ y, y = g.f.sy := ⟨_, rfl⟩
      have hqu : q ≤ u := by have := Nat.mod_lt (max keep 0).toNat (show 0 < u + 1 by omega); omega
      have hsz : Hid (sizeF keep g.f = y + q) := Lib.hid (by
        unfold sizeF
        rw [← hn, hu, hy, hq]
        congr 2
        omega)
      have hcm := hFg.cm
      have hnc := hFg.nc
      have e0 : w'.cell? ⟨g.k, 0, none⟩ = some (.slice g.A n g.c) := by rw [hn]; exact hFg.row.cell (i := 0) (by simp)
      have e1 : w'.cell? ⟨g.k, 1, none⟩ = some (.int .i64 (y : Nat)) := by rw [hy]; exact hFg.row.cell (i := 1) (by simp)
      have f0 := hFg.row.fro 0
      rw [← hy] at hu
      rw [← hn] at hnc
      have hm48 : n ≤ 140737488355328 := by rw [hn]; exact hFg.len
      have hw1 : IntKind.i64.wrap ((n : Int) - (y : Int)) = (u : Nat) := by rw [hu, IntWalk.i64_in _ (by omega)]; omega
      have hm1 : (max keep 0).tmod ((u : Int) + 1) = (q : Nat) := by
        have hx : max keep 0 = (((max keep 0).toNat : Nat) : Int) := by omega
        rw [hx, hq, show ((u : Int) + 1) = ((u + 1 : Nat) : Int) from rfl]
        rfl
      have hw2 : IntKind.i64.wrap ((u : Int) + 1) = (u : Int) + 1 := IntWalk.i64_in _ (by omega)
      have hw2n : ¬ ((u : Int) + 1 = 0) := by omega
      have hHn := Lib.hid hn
      have hHy := Lib.hid hy
      replace hFg := Lib.hid hFg
      replace hDg := Lib.hid hDg
      replace hS' := Lib.hid hS'
      have hst2 := Lib.hid hst.2
      clear hst hD' hrne hrs hn hy hq
      generalize hz : y + q = z at *
      have hzn : z ≤ n := by omega
      have hzi : ((y : Int) + (q : Int)) = (z : Nat) := by omega
      have hzc : z ≤ g.c := by omega
      have hwz : IntKind.i64.wrap (z : Int) = (z : Int) := IntWalk.i64_in _ (by omega)
      have hHu := Lib.hid hu
      have huy : u ≤ n := by omega
      clear hu
      go_upto_region 6 with fail
      refine wp_region_sure (fun W' => Ext w' W') (by kernel_rfl) (ext_drew _) ?_
      refine wpAnyS_go (i := 0) (some 28) (v := ?_) rfl rfl (by kernel_rfl) (by kernel_rfl) (by kernel_rfl) (fun _ _ _ h => h) (.inl ⟨by rfl, fun w hS => ?_⟩) ?_
      rotate_left
      · (try go_simp)
        refine ⟨?_, hS⟩
        with_reducible rfl
      simp only [Act.put, List.setIfInBounds_toArray, List.set_cons_zero, List.set_cons_succ]
      refine wpAnyS_go (i := 1) (some 29) (v := ?_) rfl rfl (by kernel_rfl) (by kernel_rfl) (by kernel_rfl) (fun _ _ _ h => h) (.inl ⟨by rfl, fun w hS => ?_⟩) ?_
      rotate_left
      · (try go_simp)
        refine ⟨?_, hS⟩
        with_reducible rfl
      simp only [Act.put, List.setIfInBounds_toArray, List.set_cons_zero, List.set_cons_succ]
      refine wpAnyS_go (i := 2) (some 30) (v := ?_) rfl rfl (by kernel_rfl) (by kernel_rfl) (by kernel_rfl) (fun _ _ _ h => h) (.inl ⟨by rfl, fun w hS => ?_⟩) ?_
      rotate_left
      · (try go_simp)
        refine ⟨?_, hS⟩
        with_reducible rfl
      simp only [Act.put, List.setIfInBounds_toArray, List.set_cons_zero, List.set_cons_succ]
      refine wpAnyS_go (i := 3) (some 31) (v := ?_) rfl rfl (by kernel_rfl) (by kernel_rfl) (by kernel_rfl) (fun _ _ _ h => h) (.inl ⟨by rfl, fun w hS => ?_⟩) ?_
      rotate_left
      · have e2 := Ext.cell hS e0
        go_simp
        refine ⟨?_, hS⟩
        with_reducible rfl
      simp only [Act.put, List.setIfInBounds_toArray, List.set_cons_zero, List.set_cons_succ]
      refine wpAnyS_go (i := 4) (some 32) (v := ?_) rfl rfl (by kernel_rfl) (by kernel_rfl) (by kernel_rfl) (fun _ _ _ h => h) (.inl ⟨by rfl, fun w hS => ?_⟩) ?_
      rotate_left
      · (try go_simp)
        refine ⟨?_, hS⟩
        with_reducible rfl
      simp only [Act.put, List.setIfInBounds_toArray, List.set_cons_zero, List.set_cons_succ]
      refine wpAnyS_go (i := 5) (some 33) (v := ?_) rfl rfl (by kernel_rfl) (by kernel_rfl) (by kernel_rfl) (fun _ _ _ h => h) (.inl ⟨by rfl, fun w hS => ?_⟩) ?_
      rotate_left
      · (try go_simp)
        refine ⟨?_, hS⟩
        with_reducible rfl
      simp only [Act.put, List.setIfInBounds_toArray, List.set_cons_zero, List.set_cons_succ]
      refine wpAnyS_go (i := 6) (some 34) (v := ?_) rfl rfl (by kernel_rfl) (by kernel_rfl) (by kernel_rfl) (fun _ _ _ h => h) (.inl ⟨by rfl, fun w hS => ?_⟩) ?_
      rotate_left
      · (try go_simp)
        refine ⟨?_, hS⟩
        with_reducible rfl
      simp only [Act.put, List.setIfInBounds_toArray, List.set_cons_zero, List.set_cons_succ]
      refine wpAnyS_go (i := 7) (some 35) (v := ?_) rfl rfl (by kernel_rfl) (by kernel_rfl) (by kernel_rfl) (fun _ _ _ h => h) (.inl ⟨by rfl, fun w hS => ?_⟩) ?_
      rotate_left
      · (try go_simp)
        refine ⟨?_, hS⟩
        with_reducible rfl
      simp only [Act.put, List.setIfInBounds_toArray, List.set_cons_zero, List.set_cons_succ]
      refine wpAnyS_go (i := 8) (some 36) (v := ?_) rfl rfl (by kernel_rfl) (by kernel_rfl) (by kernel_rfl) (fun _ _ _ h => h) (.inl ⟨by rfl, fun w hS => ?_⟩) ?_
      rotate_left
      · have e2 := Ext.cell hS e1
        go_simp
        refine ⟨?_, hS⟩
        with_reducible rfl
      simp only [Act.put, List.setIfInBounds_toArray, List.set_cons_zero, List.set_cons_succ]
      refine wpAnyS_go (i := 9) (some 37) (v := ?_) rfl rfl (by kernel_rfl) (by kernel_rfl) (by kernel_rfl) (fun _ _ _ h => h) (.inl ⟨by rfl, fun w hS => ?_⟩) ?_
      rotate_left
      · (try go_simp)
        refine ⟨?_, hS⟩
        with_reducible rfl
      simp only [Act.put, List.setIfInBounds_toArray, List.set_cons_zero, List.set_cons_succ]
      refine wpAnyS_go (i := 10) (some 6) (v := ?_) rfl rfl (by kernel_rfl) (by kernel_rfl) (by kernel_rfl) (fun _ _ _ h => h) (.inl ⟨by rfl, fun w hS => ?_⟩) ?_
      rotate_left
      · (try go_simp)
        refine ⟨?_, hS⟩
        with_reducible rfl
      simp only [Act.put, List.setIfInBounds_toArray, List.set_cons_zero, List.set_cons_succ]
      refine wpAnyS_done (by kernel_rfl) fun w1 hS1 => ?_
      go_upto_region 7 with fail
      refine wp_region_sure (fun W' => Ext w' W') (by kernel_rfl) (hS1.trans (ext_drew _)) ?_
      refine wpAnyS_go (i := 0) (some 38) (v := ?_) rfl rfl (by kernel_rfl) (by kernel_rfl) (by kernel_rfl) (fun _ _ _ h => h) (.inl ⟨by rfl, fun w hS => ?_⟩) ?_
      rotate_left
      · (try go_simp)
        refine ⟨?_, hS⟩
        with_reducible rfl
      simp only [Act.put, List.setIfInBounds_toArray, List.set_cons_zero, List.set_cons_succ]
      refine wpAnyS_go (i := 1) (some 39) (v := ?_) rfl rfl (by kernel_rfl) (by kernel_rfl) (by kernel_rfl) (fun _ _ _ h => h) (.inl ⟨by rfl, fun w hS => ?_⟩) ?_
      rotate_left
      · (try go_simp)
        refine ⟨?_, hS⟩
        with_reducible rfl
      simp only [Act.put, List.setIfInBounds_toArray, List.set_cons_zero, List.set_cons_succ]
      refine wpAnyS_go (i := 2) (some 40) (v := ?_) rfl rfl (by kernel_rfl) (by kernel_rfl) (by kernel_rfl) (fun _ _ _ h => h) (.inl ⟨by rfl, fun w hS => ?_⟩) ?_
      rotate_left
      · (try go_simp)
        refine ⟨?_, hS⟩
        with_reducible rfl
      simp only [Act.put, List.setIfInBounds_toArray, List.set_cons_zero, List.set_cons_succ]
      refine wpAnyS_go (i := 3) (some 41) (v := ?_) rfl rfl (by kernel_rfl) (by kernel_rfl) (by kernel_rfl) (fun _ _ _ h => h) (.inl ⟨by rfl, fun w hS => ?_⟩) ?_
      rotate_left
      · have e2 := Ext.cell hS e1
        go_simp
        refine ⟨?_, hS⟩
        with_reducible rfl
      simp only [Act.put, List.setIfInBounds_toArray, List.set_cons_zero, List.set_cons_succ]
      refine wpAnyS_go (i := 4) (some 42) (v := ?_) rfl rfl (by kernel_rfl) (by kernel_rfl) (by kernel_rfl) (fun _ _ _ h => h) (.inl ⟨by rfl, fun w hS => ?_⟩) ?_
      rotate_left
      · (try go_simp)
        refine ⟨?_, hS⟩
        with_reducible rfl
      simp only [Act.put, List.setIfInBounds_toArray, List.set_cons_zero, List.set_cons_succ]
      refine wpAnyS_go (i := 5) (some 43) (v := ?_) rfl rfl (by kernel_rfl) (by kernel_rfl) (by kernel_rfl) (fun _ _ _ h => h) (.inl ⟨by rfl, fun w hS => ?_⟩) ?_
      rotate_left
      · (try go_simp)
        refine ⟨?_, hS⟩
        with_reducible rfl
      simp only [Act.put, List.setIfInBounds_toArray, List.set_cons_zero, List.set_cons_succ]
      refine wpAnyS_go (i := 6) (some 44) (v := ?_) rfl rfl (by kernel_rfl) (by kernel_rfl) (by kernel_rfl) (fun _ _ _ h => h) (.inl ⟨by rfl, fun w hS => ?_⟩) ?_
      rotate_left
      · (try go_simp)
        refine ⟨?_, hS⟩
        with_reducible rfl
      simp only [Act.put, List.setIfInBounds_toArray, List.set_cons_zero, List.set_cons_succ]
      refine wpAnyS_go (i := 7) (some 45) (v := ?_) rfl rfl (by kernel_rfl) (by kernel_rfl) (by kernel_rfl) (fun _ _ _ h => h) (.inl ⟨by rfl, fun w hS => ?_⟩) ?_
      rotate_left
      · (try go_simp)
        refine ⟨?_, hS⟩
        with_reducible rfl
      simp only [Act.put, List.setIfInBounds_toArray, List.set_cons_zero, List.set_cons_succ]
      refine wpAnyS_go (i := 8) (some 46) (v := ?_) rfl rfl (by kernel_rfl) (by kernel_rfl) (by kernel_rfl) (fun _ _ _ h => h) (.inl ⟨by rfl, fun w hS => ?_⟩) ?_
      rotate_left
      · (try go_simp)
        refine ⟨?_, hS⟩
        with_reducible rfl
      simp only [Act.put, List.setIfInBounds_toArray, List.set_cons_zero, List.set_cons_succ]
      refine wpAnyS_go (i := 9) (some 47) (v := ?_) rfl rfl (by kernel_rfl) (by kernel_rfl) (by kernel_rfl) (fun _ _ _ h => h) (.inl ⟨by rfl, fun w hS => ?_⟩) ?_
      rotate_left
      · (try go_simp)
        refine ⟨?_, hS⟩
        with_reducible rfl
      simp only [Act.put, List.setIfInBounds_toArray, List.set_cons_zero, List.set_cons_succ]
      refine wpAnyS_go (i := 10) (some 7) (v := ?_) rfl rfl (by kernel_rfl) (by kernel_rfl) (by kernel_rfl) (fun _ _ _ h => h) (.inl ⟨by rfl, fun w hS => ?_⟩) ?_
      rotate_left
      · (try go_simp)
        refine ⟨?_, hS⟩
        with_reducible rfl
      simp only [Act.put, List.setIfInBounds_toArray, List.set_cons_zero, List.set_cons_succ]
      refine wpAnyS_done (by kernel_rfl) fun w2 hS2 => ?_
      have e3 : w2.cell? ⟨g.k, 0, none⟩ = some (.slice g.A n g.c) := Ext.cell hS2 e0
      have e4 : w2.cell? ⟨g.k, 1, none⟩ = some (.int .i64 (y : Nat)) := Ext.cell hS2 e1
      have hF2 := Lib.hid (hFg.out.keep (Keep.of_ext (bs := []) hS2) (by simp))
      have f3 := hF2.out.row.fro 0
      have f4 := (hF2.out.row.set 0 (.slice g.A z z)).fro 1
      have e5 : (w2.setCell ⟨g.k, 0, none⟩ (.slice g.A z z)).cell? ⟨g.k, 1, none⟩ = some (.int .i64 (y : Nat)) := by rw [hHy.out]; exact (hF2.out.row.set 0 (.slice g.A z z)).cell (i := 1) (by simp)
      go_wp2
      have hzb : z ≤ g.f.b.length := by rw [← hHn.out]; exact hzn
      have hcut := (hDg.out.ext hS2).cutAt hzb rfl
      have hcg : (⟨{ g.f with b := g.f.b.take z, sy := z }, g.k, g.A, z⟩ : GF) = cutG keep g := by
        unfold cutG
        rw [cutf_len keep hFg.out.sy, cutf_eq, hsz.out]
      rw [hcg, ← hst2.out, ← hL.out] at hcut
      have hne1 : ∀ x ∈ [g.k], x ∈ foot d mb L := fun x hx => by
        rw [List.mem_singleton.1 hx, hL.out]
        simp only [foot, List.mem_cons, List.mem_flatMap]
        exact .inr (.inr ⟨g, by simp, by simp [ownB]⟩)
      have hmbk : mb ∉ [g.k] := fun hm => by
        have := hDg.out.sep.of.2.2.2.1
        rw [List.mem_singleton.1 hm] at this
        exact this (by simp [ownB])
      have hrk : W.heap.size ∉ [g.k] := fun hm => by
        have h3 := hlt.out g.k (hne1 _ (by simp))
        have h4 := List.mem_singleton.1 hm
        omega
      have hrg5 := ranges_keep (ranges_keep hrg' (Keep.of_ext (bs := []) hS2) (by simp) (by simp)) hcut.2.2 hmbk hrk
      refine ⟨⟨_, cnt', hrg5, Lib.hid hcut.1, Lib.hid ((hS'.out.ext hS2).trans ⟨hcut.2.2.mono hne1, fun x hx => .inl hx⟩)⟩, ?_⟩
      rw [hrg5.left_eq, hrg.left_eq]
      exact hlt'
theorem power_any (B d mb : Nat) (S : DS) (L : List GF) (keep : Int) (w : World) (h : DiskAt w B d mb S L) (hkp : -9223372036854775808 ≤ keep ∧ keep ≤ 9223372036854775807) :
    Calls Tryz.prog 32 #[.pointer (some ⟨d, 0, none⟩), .int .i64 keep] w fun e w' => e = .returned (.tuple #[]) ∧ Done w B d mb L (Dk.pow S keep) w' := by
  cases ho : S.off
  · refine (power_on B d mb S L keep w h ho).mono fun e w' hh => ⟨hh.1, ?_⟩
    have e1 : Dk.pow S keep = { S with bud := -1 } := if_neg (by rw [ho]; simp)
    rw [e1]
    exact Done.d hh.2.1 hh.2.2
  · refine (power_off B d mb S L keep w (Lib.hid h) hkp ho).mono fun e w' hh => ⟨hh.1, ?_⟩
    have e1 : Dk.pow S keep = { S with bud := -1, off := false, l := S.l.map (cutf keep) } := if_pos ho
    rw [e1]
    exact ⟨_, hh.2.1, hh.2.2, by simp⟩
end Go.Proofs.YtjnbbfhoegeppaaGreatDoor
end
section
/-
  The disk's requests, whole.
-/
set_option linter.unusedSimpArgs false
set_option linter.unusedVariables false
namespace Go.Proofs.YtjnbbfhoegeppaaGreatDoor
open Go.RowKit Go.Cv Go.Cv.Dk
/-- The disk stands so, its blocks come from bs. -/
def DN (w : World) (B d : Nat) (bs : List Nat) (S' : DS) (w' : World) : Prop := ∃ cs, Dsk w' B d S' cs ∧ Stp bs cs w w'
theorem Done.dn {w w' : World} {B d mb : Nat} {L : List GF} {S' : DS} (h : Done w B d mb L S' w') : DN w B d (foot d mb L) S' w' := by
  obtain ⟨L', hD, hS, _⟩ := h
  exact ⟨_, ⟨mb, L', hD, rfl⟩, hS⟩
theorem DN.after {w w1 w' : World} {B d : Nat} {bs : List Nat} {S : DS} (hx : Ext w w1) (h : DN w1 B d bs S w') : DN w B d bs S w' := by
  obtain ⟨cs, hD, hS⟩ := h
  exact ⟨cs, hD, Stp.after hx hS⟩
theorem append_dk {B d : Nat} {S : DS} {bs : List Nat} (s : ByteArray) (A : Option Addr) (n c : Nat) (b : List UInt8) {w : World} (h : Dsk w B d S bs) (hs : s.size ≤ 281474976710656) (hl : b.length = n) (hr : Rd w A (b.map bv)) (hro : Ap A b bs)
    (hbd : (cont S s.data.toList).length + n ≤ 140737488355328) (hL : S.l.length < 281474976710656) :
    Calls Tryz.prog 27 #[.pointer (some ⟨d, 0, none⟩), .string s, .slice A n c] w fun e w' => e = .returned (errV (app wrap64 S s.data.toList b).1) ∧ DN w B d bs (app wrap64 S s.data.toList b).2 w' := by
  obtain ⟨mb, L, h, rfl⟩ := h
  rw [h.ls, List.length_map] at hL
  exact (append_any B d mb S L s A n c b w h hs hl hr hro hbd hL).mono fun e w' x => ⟨x.1, x.2.dn⟩
theorem sync_dk {B d : Nat} {S : DS} {bs : List Nat} (s : ByteArray) {w : World} (h : Dsk w B d S bs) (hs : s.size ≤ 281474976710656) :
    Calls Tryz.prog 43 #[.pointer (some ⟨d, 0, none⟩), .string s] w fun e w' => e = .returned (errV (syn wrap64 S s.data.toList).1) ∧ DN w B d bs (syn wrap64 S s.data.toList).2 w' := by
  obtain ⟨mb, L, h, rfl⟩ := h
  exact (sync_any B d mb S L s w h hs).mono fun e w' x => ⟨x.1, x.2.dn⟩
theorem cut_dk {B d : Nat} {S : DS} {bs : List Nat} (n : Int) {w : World} (h : Dsk w B d S bs) (hn : n ≤ 9223372036854775807) :
    Calls Tryz.prog 31 #[.pointer (some ⟨d, 0, none⟩), .int .i64 n] w fun e w' => e = .returned (errV (cutd S n).1) ∧ DN w B d bs (cutd S n).2 w' := by
  obtain ⟨mb, L, h, rfl⟩ := h
  exact (cut_any B d mb n S L w h hn).mono fun e w' x => ⟨x.1, (Done.d x.2.1 x.2.2).dn⟩
theorem power_dk {B d : Nat} {S : DS} {bs : List Nat} (keep : Int) {w : World} (h : Dsk w B d S bs) (hkp : -9223372036854775808 ≤ keep ∧ keep ≤ 9223372036854775807) :
    Calls Tryz.prog 32 #[.pointer (some ⟨d, 0, none⟩), .int .i64 keep] w fun e w' => e = .returned (.tuple #[]) ∧ DN w B d bs (Dk.pow S keep) w' := by
  obtain ⟨mb, L, h, rfl⟩ := h
  exact (power_any B d mb S L keep w h hkp).mono fun e w' x => ⟨x.1, x.2.dn⟩
theorem read_dk {B d : Nat} {S : DS} {bs : List Nat} (s : ByteArray) {w : World} (h : Dsk w B d S bs) (hs : s.size ≤ 281474976710656) (hf : fnd S s.data.toList = 0) :
    Calls Tryz.prog 18 #[.pointer (some ⟨d, 0, none⟩), .string s] w fun e w' => ∃ v, e = .returned (.tuple #[v, .nilIface]) ∧ RetB w (cont S s.data.toList).length (cont S s.data.toList) v w' := by
  obtain ⟨mb, L, h, rfl⟩ := h
  refine read_ok B d mb S L s w h hs hf ?_
  obtain ⟨ho, f, hq⟩ := fnd_ok hf
  obtain ⟨l1, l2, g, rfl, rfl, hnm, h1, h2⟩ := h.isome hq
  have e : cont S s.data.toList = g.f.b := by unfold cont; rw [hq]
  rw [e]
  exact (h.fl g (by simp)).len
theorem new_dk (room : Int) (w : World) (h0 : 0 ≤ room) (h1 : room ≤ 9223372036854775807) :
    Calls Tryz.prog 26 #[.int .i64 room] w fun e w' => ∃ d bs, e = .returned (.tuple #[.pointer (some ⟨d, 0, none⟩), .nilIface]) ∧ Dsk w' w.heap.size d (newD room) bs ∧ Ext w w' :=
  (new_any room w h0 h1).mono fun e w' x => ⟨_, _, x.1, ⟨_, _, x.2.1, rfl⟩, x.2.2⟩
end Go.Proofs.YtjnbbfhoegeppaaGreatDoor
end
