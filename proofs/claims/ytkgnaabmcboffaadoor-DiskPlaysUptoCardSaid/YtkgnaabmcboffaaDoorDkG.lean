/-
  Walks of the disk: the power comes back.
-/
import Derived.Test.YtkgnaabmcboffaaDoorDkF
set_option linter.unusedSimpArgs false
set_option linter.unusedVariables false
namespace Go.Proofs.YtkgnaabmcboffaaDoor
open Go.RowKit Go.Cv Go.Cv.Dk
def cutG (keep : Int) (g : GF) : GF := ⟨cutf keep g.f, g.k, g.A, (cutf keep g.f).b.length⟩
def mid (keep : Int) (L : List GF) (left : Lit → Bool) : List GF := L.map fun g => if left (.string g.f.nm) then g else cutG keep g
theorem mid_all {keep : Int} {L : List GF} {left : Lit → Bool} (h : ∀ g ∈ L, left (.string g.f.nm) = true) : mid keep L left = L := by
  unfold mid
  exact (List.map_congr_left fun z hz => by rw [h z hz]; rfl).trans (List.map_id' L)
theorem mid_none {keep : Int} {L : List GF} {left : Lit → Bool} (h : ∀ g ∈ L, left (.string g.f.nm) = false) : mid keep L left = L.map (cutG keep) := by
  unfold mid
  exact List.map_congr_left fun z hz => by rw [h z hz]; rfl
theorem mid_step {keep : Int} {l1 l2 : List GF} {g : GF} {left : Lit → Bool} (h1 : ∀ z ∈ l1, z.f.nm ≠ g.f.nm) (h2 : ∀ z ∈ l2, z.f.nm ≠ g.f.nm) (hl : left (.string g.f.nm) = true) :
    mid keep (l1 ++ g :: l2) left = mid keep l1 left ++ g :: mid keep l2 left ∧ mid keep (l1 ++ g :: l2) (fun z => left z && !z.sameKey (.string g.f.nm)) = mid keep l1 left ++ cutG keep g :: mid keep l2 left := by
  have e : ∀ l : List GF, (∀ z ∈ l, z.f.nm ≠ g.f.nm) → mid keep l (fun z => left z && !z.sameKey (.string g.f.nm)) = mid keep l left := fun l hl => List.map_congr_left fun z hz => by
    have : (Lit.string z.f.nm).sameKey (.string g.f.nm) = false := by simpa [Lit.sameKey] using hl z hz
    simp [this]
  constructor
  · unfold mid
    rw [List.map_append, List.map_cons, hl]; rfl
  · show List.map _ (l1 ++ g :: l2) = _
    rw [List.map_append, List.map_cons]
    have e1 := e l1 h1
    have e2 := e l2 h2
    unfold mid at e1 e2 ⊢
    rw [e1, e2]
    simp [Lit.sameKey]
theorem mid_ents {keep : Int} {L : List GF} {left : Lit → Bool} : ents (mid keep L left) = ents L := by
  unfold ents mid
  rw [List.map_map]
  refine List.map_congr_left fun z hz => ?_
  show (Lit.string (if left (.string z.f.nm) then z else cutG keep z).f.nm, DataW.lit (Lit.int .i64 (if left (.string z.f.nm) then z else cutG keep z).k)) = _
  split <;> rfl
theorem mid_foot {keep : Int} {L : List GF} {left : Lit → Bool} {d mb : Nat} : foot d mb (mid keep L left) = foot d mb L := by
  unfold foot mid
  congr 2
  rw [List.flatMap_map]
  have e : (fun g : GF => ownB (if left (.string g.f.nm) = true then g else cutG keep g)) = ownB := by
    funext z
    split <;> rfl
  rw [e]
theorem mid_len {keep : Int} {L : List GF} {left : Lit → Bool} : (mid keep L left).length = L.length := by simp [mid]
/-- How much stays of a file. -/
def sizeF (keep : Int) (f : PF) : Nat := f.sy + (max keep 0).toNat % (f.b.length - f.sy + 1)
theorem sizeF_le (keep : Int) {f : PF} (h : f.sy ≤ f.b.length) : sizeF keep f ≤ f.b.length := by
  unfold sizeF
  have := Nat.mod_lt (max keep 0).toNat (show 0 < f.b.length - f.sy + 1 by omega)
  omega
theorem cutf_eq (keep : Int) (f : PF) : cutf keep f = { f with b := f.b.take (sizeF keep f), sy := sizeF keep f } := rfl
theorem cutf_len (keep : Int) {f : PF} (h : f.sy ≤ f.b.length) : (cutf keep f).b.length = sizeF keep f := by
  rw [cutf_eq]
  show (f.b.take (sizeF keep f)).length = _
  rw [List.length_take]; have := sizeF_le keep h; omega
set_option maxHeartbeats 800000 in
theorem power_on (B d mb : Nat) (S : DS) (L : List GF) (keep : Int) (w : World) (h : DiskAt w B d mb S L) (ho : S.off = false) :
    Calls Tryd.prog 11 #[.pointer (some ⟨d, 0, none⟩), .int .i64 keep] w fun e w' => e = .returned (.tuple #[]) ∧ DiskAt w' B d mb { S with bud := -1 } L ∧ Keep [d] w w' := by
  refine calls_hid fun G hG => ?_
  have c3 : w.cell? ⟨d, 3, none⟩ = some (.int .i64 S.bud) := h.row.cell (i := 3) (by simp)
  have f3 := h.row.fro 3
  have hk := Keep.setCell w ⟨d, 3, none⟩ (.int .i64 (-1))
  have hr := h.row.set 3 (.int .i64 (-1))
  have hok : DS.Ok { S with bud := -1 } := ⟨h.ok.r0, h.ok.r1, by show (-1 : Int) ≤ -1; omega, by show (-1 : Int) ≤ _; omega, h.ok.u, h.ok.nm, h.ok.sy, h.ok.ris⟩
  have d2 : (w.setCell ⟨d, 3, none⟩ (.int .i64 (-1))).cell? ⟨d, 2, none⟩ = some (.bool S.off) := hr.cell (i := 2) (by simp)
  rw [ho] at d2
  have hg : G (.returned (.tuple #[])) (w.setCell ⟨d, 3, none⟩ (.int .i64 (-1))) := hG.out _ _ ⟨rfl, h.turn (S' := { S with bud := -1 }) hk hr rfl hok, hk⟩
  clear hG h hk hr hok
  go_enter Tryd.func11, Tryd.ntmps11
  go_wp2
  go_end0
  exact hg
theorem FS.cut {w : World} {B : Nat} {A : Option Addr} {c z : Nat} {b : List UInt8} (h : FS w B A c b) (hz : z ≤ b.length) : FS w B A z (b.take z) := by
  have hl : (b.take z).length = z := by rw [List.length_take]; omega
  have := h.nc
  refine ⟨?_, by omega, by have := h.cm; omega, .inr hl.symm, fun e => ?_, h.ge⟩
  · rw [List.map_take]; exact h.rd.take z
  · have := (h.nil e).1
    omega
/-- A file is cut off behind z bytes, all of them synced. -/
theorem DiskAt.cutAt {w w' : World} {B d mb : Nat} {S : DS} {l1 l2 : List GF} {g : GF} {z : Nat} (h : DiskAt w B d mb S (l1 ++ g :: l2)) (hz : z ≤ g.f.b.length)
    (he : w' = (w.setCell ⟨g.k, 0, none⟩ (.slice g.A z z)).setCell ⟨g.k, 1, none⟩ (.int .i64 (z : Nat))) :
    DiskAt w' B d mb { S with l := (l1 ++ ⟨{ g.f with b := g.f.b.take z, sy := z }, g.k, g.A, z⟩ :: l2).map GF.f } (l1 ++ ⟨{ g.f with b := g.f.b.take z, sy := z }, g.k, g.A, z⟩ :: l2) ∧
      foot d mb (l1 ++ ⟨{ g.f with b := g.f.b.take z, sy := z }, g.k, g.A, z⟩ :: l2) = foot d mb (l1 ++ g :: l2) ∧ Keep [g.k] w w' := by
  subst he
  have hg := h.fl g (by simp)
  have hl : (g.f.b.take z).length = z := by rw [List.length_take]; omega
  have hk := (Keep.setCell w ⟨g.k, 0, none⟩ (.slice g.A z z)).same (Keep.setCell (w.setCell ⟨g.k, 0, none⟩ (.slice g.A z z)) ⟨g.k, 1, none⟩ (.int .i64 (z : Nat)))
  have hr := (hg.row.set 0 (.slice g.A z z)).set 1 (.int .i64 (z : Nat))
  have hls := h.ls
  have hsw := h.swap (g' := ⟨{ g.f with b := g.f.b.take z, sy := z }, g.k, g.A, z⟩) (S' := { S with l := (l1 ++ ⟨{ g.f with b := g.f.b.take z, sy := z }, g.k, g.A, z⟩ :: l2).map GF.f }) hk (fun x hx => .inl (by rw [List.mem_singleton.1 hx]; simp [ownB])) rfl rfl
    (FS.file (g := ⟨{ g.f with b := g.f.b.take z, sy := z }, g.k, g.A, z⟩) ((hg.fs.cut hz).keep hk fun x hx hm => by
      rw [List.mem_singleton.1 hm] at hx
      exact h.sep.of.2.1 hx) (by show Row _ g.k _ [.slice g.A (g.f.b.take z).length z, _]; rw [hl]; exact hr) (by show z ≤ (g.f.b.take z).length; omega) hg.ge.1 (by have := hg.len; show (g.f.b.take z).length ≤ _; omega))
    (fun x hx => .inl hx) rfl rfl (by
      rw [List.map_append, List.map_cons] at hls ⊢
      refine ok_upd h.ok hls rfl (by show z ≤ (g.f.b.take z).length; omega) ?_
      have hu := h.ok.u
      rw [hls, used_app, used_cons] at hu
      show (used _ : Int) + ((g.f.b.take z).length : Nat) + (used _ : Nat) ≤ S.room
      omega)
  refine ⟨hsw.1, ?_, hk⟩
  unfold foot
  rw [List.flatMap_append, List.flatMap_cons, List.flatMap_append, List.flatMap_cons]
  rfl
set_option maxRecDepth 4000 in
set_option maxHeartbeats 1600000 in
theorem power_off (B d mb : Nat) (S : DS) (L : List GF) (keep : Int) (w : World) (h : Hid (DiskAt w B d mb S L)) (hkp : -9223372036854775808 ≤ keep ∧ keep ≤ 9223372036854775807) (ho : S.off = true) :
    Calls Tryd.prog 11 #[.pointer (some ⟨d, 0, none⟩), .int .i64 keep] w fun e w' => e = .returned (.tuple #[]) ∧ DiskAt w' B d mb { S with bud := -1, off := false, l := S.l.map (cutf keep) } (L.map (cutG keep)) ∧ Stp (foot d mb L) (foot d mb (L.map (cutG keep))) w w' := by
  refine calls_hid fun G hG => ?_
  have c3 : w.cell? ⟨d, 3, none⟩ = some (.int .i64 S.bud) := h.out.row.cell (i := 3) (by simp)
  have f3 := h.out.row.fro 3
  have hr1 := h.out.row.set 3 (.int .i64 (-1))
  have hk1 := Keep.setCell w ⟨d, 3, none⟩ (.int .i64 (-1))
  have d2 : (w.setCell ⟨d, 3, none⟩ (.int .i64 (-1))).cell? ⟨d, 2, none⟩ = some (.bool S.off) := hr1.cell (i := 2) (by simp)
  rw [ho] at d2
  have g2 := Row.fro hr1 2
  have hr2 := Row.set hr1 2 (.bool false)
  have hk2 := Keep.setCell (w.setCell ⟨d, 3, none⟩ (.int .i64 (-1))) ⟨d, 2, none⟩ (.bool false)
  have hok : DS.Ok { S with bud := -1, off := false } := ⟨h.out.ok.r0, h.out.ok.r1, by show (-1 : Int) ≤ -1; omega, by show (-1 : Int) ≤ _; omega, h.out.ok.u, h.out.ok.nm, h.out.ok.sy, h.out.ok.ris⟩
  have hD2 := h.out.turn (S' := { S with bud := -1, off := false }) (hk1.same hk2) hr2 rfl hok
  have hS2 : Stp (foot d mb L) (foot d mb L) w _ := stp_d (mb := mb) (L := L) (hk1.same hk2)
  generalize hW : (w.setCell ⟨d, 3, none⟩ (.int .i64 (-1))).setCell ⟨d, 2, none⟩ (.bool false) = W at *
  have d1 : W.cell? ⟨d, 1, none⟩ = some (.map (some mb)) := hD2.row.cell (i := 1) (by simp)
  have hown := hD2.map
  have hlt := Lib.hid hD2.lt
  have hris := Lib.hid hD2.map.ris
  replace hD2 := Lib.hid hD2
  replace hS2 := Lib.hid hS2
  clear hok hr1 hr2 hk1 hk2
  unfold MapAt at hown
  go_enter Tryd.func11, Tryd.ntmps11
  go_wp2_with (first
   | (rw [hW])
   | (at_range; refine wpList_range_own _ rfl _ 50 rfl 9 55 strK Tryd.underlying50 RF mb L.length (.map (ents L)) rfl hown ?_; intro w0 hrg0 hg0 hs0))
  go_frame
  go_loopw [5] (fun t wr => ∃ (left : Lit → Bool) (cnt : Nat), wr.ranges Tryd.prog 9 RF mb W.heap.size L.length (.map (ents L)) left cnt ∧ Hid (DiskAt wr B d mb { S with bud := -1, off := false, l := (mid keep L left).map GF.f } (mid keep L left)) ∧ Hid (Stp (foot d mb L) (foot d mb L) W wr)) (fun _ wr => wr.rangeLeft mb W.heap.size)
  case atStart =>
    refine ⟨_, _, hrg0, Lib.hid ?_, Lib.hid (Stp.of_ext (ext_grown hg0))⟩
    rw [mid_all has_all, ← h.out.ls]
    exact hD2.out.ext (ext_grown hg0)
  case round =>
    obtain ⟨left, cnt, hrg, hDr, hSr⟩ := hrel
    go_wp2_with (at_next; refine wpList_next_files rfl _ rfl mb W.heap.size L.length L left cnt rfl hrg ?_ ?_)
    · intro hdone
      have hm := mid_none (keep := keep) hdone
      have hDd := hDr.out
      rw [hm] at hDd
      have hgg := hG.out _ _ ⟨rfl, (by
        have e : S.l.map (cutf keep) = (L.map (cutG keep)).map GF.f := by rw [h.out.ls, List.map_map, List.map_map]; rfl
        rw [e]; exact hDd), (by
        have e : foot d mb (L.map (cutG keep)) = foot d mb L := by rw [← hm]; exact mid_foot
        rw [e]; exact hS2.out.trans hSr.out)⟩
      clear hDd hm
      go_wp2
      go_end0
      exact hgg
    · intro l1 l2 g s w' cnt' hL hnm hl hrg' hlt' hk hen
      have hrs := hris.out
      rw [hL.out] at hrs
      have hst := mid_step (keep := keep) (left := left) (ris_after hrs).1 (ris_after hrs).2 hl.out
      have hrne : ∀ x ∈ foot d mb L, x ∉ [W.heap.size] := fun x hx hm => by
        have := hlt.out x hx
        rw [List.mem_singleton.1 hm] at this
        omega
      have hD' := hDr.out.keep hk (by rw [mid_foot]; exact hrne)
      have hDg := hD'
      rw [hL.out, hst.1] at hDg
      have hFg := hDg.fl g (by simp)
      have hS' : Stp (foot d mb L) (foot d mb L) W w' := ⟨hSr.out.k.trans hk (fun x hx => .inr (by rw [List.mem_singleton.1 hx]; exact Nat.le_refl _)), fun x hx => .inl hx⟩
      obtain ⟨n, hn⟩ : ∃ n, n = g.f.b.length := ⟨_, rfl⟩
      obtain ⟨u, hu⟩ : ∃ u, n = g.f.sy + u := ⟨n - g.f.sy, by have := hFg.sy; omega⟩
      obtain ⟨q, hq⟩ : ∃ q, q = (max keep 0).toNat % (u + 1) := ⟨_, rfl⟩
      obtain ⟨y, hy⟩ : ∃ y, y = g.f.sy := ⟨_, rfl⟩
      have hqu : q ≤ u := by have := Nat.mod_lt (max keep 0).toNat (show 0 < u + 1 by omega); omega
      have hsz : Hid (sizeF keep g.f = y + q) := Lib.hid (by
        unfold sizeF
        rw [← hn, hu, hy, hq]
        congr 2
        omega)
      have hcm := hFg.cm
      have hnc := hFg.nc
      have e0 : w'.cell? ⟨g.k, 0, none⟩ = some (.slice g.A n g.c) := by rw [hn]; exact hFg.row.cell (i := 0) (by simp)
      have e1 : w'.cell? ⟨g.k, 1, none⟩ = some (.int .i64 (y : Nat)) := by rw [hy]; exact hFg.row.cell (i := 1) (by simp)
      have f0 := hFg.row.fro 0
      rw [← hy] at hu
      rw [← hn] at hnc
      have hm48 : n ≤ 140737488355328 := by rw [hn]; exact hFg.len
      have hw1 : IntKind.i64.wrap ((n : Int) - (y : Int)) = (u : Nat) := by rw [hu, IntWalk.i64_in _ (by omega)]; omega
      have hm1 : (max keep 0).tmod ((u : Int) + 1) = (q : Nat) := by
        have hx : max keep 0 = (((max keep 0).toNat : Nat) : Int) := by omega
        rw [hx, hq, show ((u : Int) + 1) = ((u + 1 : Nat) : Int) from rfl]
        rfl
      have hw2 : IntKind.i64.wrap ((u : Int) + 1) = (u : Int) + 1 := IntWalk.i64_in _ (by omega)
      have hw2n : ¬ ((u : Int) + 1 = 0) := by omega
      have hHn := Lib.hid hn
      have hHy := Lib.hid hy
      replace hFg := Lib.hid hFg
      replace hDg := Lib.hid hDg
      replace hS' := Lib.hid hS'
      have hst2 := Lib.hid hst.2
      clear hst hD' hrne hrs hn hy hq
      generalize hz : y + q = z at *
      have hzn : z ≤ n := by omega
      have hzi : ((y : Int) + (q : Int)) = (z : Nat) := by omega
      have hzc : z ≤ g.c := by omega
      have hwz : IntKind.i64.wrap (z : Int) = (z : Int) := IntWalk.i64_in _ (by omega)
      have hHu := Lib.hid hu
      have huy : u ≤ n := by omega
      clear hu
      go_upto_region 6 with fail
      refine wp_region_sure (fun W' => Ext w' W') (by kernel_rfl) (ext_drew _) ?_
      refine wpAnyS_go (i := 0) (some 28) (v := ?_) rfl rfl (by kernel_rfl) (by kernel_rfl) (by kernel_rfl) (fun _ _ _ h => h) (.inl ⟨by rfl, fun w hS => ?_⟩) ?_
      rotate_left
      · (try go_simp)
        refine ⟨?_, hS⟩
        with_reducible rfl
      simp only [Act.put, List.setIfInBounds_toArray, List.set_cons_zero, List.set_cons_succ]
      refine wpAnyS_go (i := 1) (some 29) (v := ?_) rfl rfl (by kernel_rfl) (by kernel_rfl) (by kernel_rfl) (fun _ _ _ h => h) (.inl ⟨by rfl, fun w hS => ?_⟩) ?_
      rotate_left
      · (try go_simp)
        refine ⟨?_, hS⟩
        with_reducible rfl
      simp only [Act.put, List.setIfInBounds_toArray, List.set_cons_zero, List.set_cons_succ]
      refine wpAnyS_go (i := 2) (some 30) (v := ?_) rfl rfl (by kernel_rfl) (by kernel_rfl) (by kernel_rfl) (fun _ _ _ h => h) (.inl ⟨by rfl, fun w hS => ?_⟩) ?_
      rotate_left
      · (try go_simp)
        refine ⟨?_, hS⟩
        with_reducible rfl
      simp only [Act.put, List.setIfInBounds_toArray, List.set_cons_zero, List.set_cons_succ]
      refine wpAnyS_go (i := 3) (some 31) (v := ?_) rfl rfl (by kernel_rfl) (by kernel_rfl) (by kernel_rfl) (fun _ _ _ h => h) (.inl ⟨by rfl, fun w hS => ?_⟩) ?_
      rotate_left
      · have e2 := Ext.cell hS e0
        go_simp
        refine ⟨?_, hS⟩
        with_reducible rfl
      simp only [Act.put, List.setIfInBounds_toArray, List.set_cons_zero, List.set_cons_succ]
      refine wpAnyS_go (i := 4) (some 32) (v := ?_) rfl rfl (by kernel_rfl) (by kernel_rfl) (by kernel_rfl) (fun _ _ _ h => h) (.inl ⟨by rfl, fun w hS => ?_⟩) ?_
      rotate_left
      · (try go_simp)
        refine ⟨?_, hS⟩
        with_reducible rfl
      simp only [Act.put, List.setIfInBounds_toArray, List.set_cons_zero, List.set_cons_succ]
      refine wpAnyS_go (i := 5) (some 33) (v := ?_) rfl rfl (by kernel_rfl) (by kernel_rfl) (by kernel_rfl) (fun _ _ _ h => h) (.inl ⟨by rfl, fun w hS => ?_⟩) ?_
      rotate_left
      · (try go_simp)
        refine ⟨?_, hS⟩
        with_reducible rfl
      simp only [Act.put, List.setIfInBounds_toArray, List.set_cons_zero, List.set_cons_succ]
      refine wpAnyS_go (i := 6) (some 34) (v := ?_) rfl rfl (by kernel_rfl) (by kernel_rfl) (by kernel_rfl) (fun _ _ _ h => h) (.inl ⟨by rfl, fun w hS => ?_⟩) ?_
      rotate_left
      · (try go_simp)
        refine ⟨?_, hS⟩
        with_reducible rfl
      simp only [Act.put, List.setIfInBounds_toArray, List.set_cons_zero, List.set_cons_succ]
      refine wpAnyS_go (i := 7) (some 35) (v := ?_) rfl rfl (by kernel_rfl) (by kernel_rfl) (by kernel_rfl) (fun _ _ _ h => h) (.inl ⟨by rfl, fun w hS => ?_⟩) ?_
      rotate_left
      · (try go_simp)
        refine ⟨?_, hS⟩
        with_reducible rfl
      simp only [Act.put, List.setIfInBounds_toArray, List.set_cons_zero, List.set_cons_succ]
      refine wpAnyS_go (i := 8) (some 36) (v := ?_) rfl rfl (by kernel_rfl) (by kernel_rfl) (by kernel_rfl) (fun _ _ _ h => h) (.inl ⟨by rfl, fun w hS => ?_⟩) ?_
      rotate_left
      · have e2 := Ext.cell hS e1
        go_simp
        refine ⟨?_, hS⟩
        with_reducible rfl
      simp only [Act.put, List.setIfInBounds_toArray, List.set_cons_zero, List.set_cons_succ]
      refine wpAnyS_go (i := 9) (some 37) (v := ?_) rfl rfl (by kernel_rfl) (by kernel_rfl) (by kernel_rfl) (fun _ _ _ h => h) (.inl ⟨by rfl, fun w hS => ?_⟩) ?_
      rotate_left
      · (try go_simp)
        refine ⟨?_, hS⟩
        with_reducible rfl
      simp only [Act.put, List.setIfInBounds_toArray, List.set_cons_zero, List.set_cons_succ]
      refine wpAnyS_go (i := 10) (some 6) (v := ?_) rfl rfl (by kernel_rfl) (by kernel_rfl) (by kernel_rfl) (fun _ _ _ h => h) (.inl ⟨by rfl, fun w hS => ?_⟩) ?_
      rotate_left
      · (try go_simp)
        refine ⟨?_, hS⟩
        with_reducible rfl
      simp only [Act.put, List.setIfInBounds_toArray, List.set_cons_zero, List.set_cons_succ]
      refine wpAnyS_done (by kernel_rfl) fun w1 hS1 => ?_
      go_upto_region 7 with fail
      refine wp_region_sure (fun W' => Ext w' W') (by kernel_rfl) (hS1.trans (ext_drew _)) ?_
      refine wpAnyS_go (i := 0) (some 38) (v := ?_) rfl rfl (by kernel_rfl) (by kernel_rfl) (by kernel_rfl) (fun _ _ _ h => h) (.inl ⟨by rfl, fun w hS => ?_⟩) ?_
      rotate_left
      · (try go_simp)
        refine ⟨?_, hS⟩
        with_reducible rfl
      simp only [Act.put, List.setIfInBounds_toArray, List.set_cons_zero, List.set_cons_succ]
      refine wpAnyS_go (i := 1) (some 39) (v := ?_) rfl rfl (by kernel_rfl) (by kernel_rfl) (by kernel_rfl) (fun _ _ _ h => h) (.inl ⟨by rfl, fun w hS => ?_⟩) ?_
      rotate_left
      · (try go_simp)
        refine ⟨?_, hS⟩
        with_reducible rfl
      simp only [Act.put, List.setIfInBounds_toArray, List.set_cons_zero, List.set_cons_succ]
      refine wpAnyS_go (i := 2) (some 40) (v := ?_) rfl rfl (by kernel_rfl) (by kernel_rfl) (by kernel_rfl) (fun _ _ _ h => h) (.inl ⟨by rfl, fun w hS => ?_⟩) ?_
      rotate_left
      · (try go_simp)
        refine ⟨?_, hS⟩
        with_reducible rfl
      simp only [Act.put, List.setIfInBounds_toArray, List.set_cons_zero, List.set_cons_succ]
      refine wpAnyS_go (i := 3) (some 41) (v := ?_) rfl rfl (by kernel_rfl) (by kernel_rfl) (by kernel_rfl) (fun _ _ _ h => h) (.inl ⟨by rfl, fun w hS => ?_⟩) ?_
      rotate_left
      · have e2 := Ext.cell hS e1
        go_simp
        refine ⟨?_, hS⟩
        with_reducible rfl
      simp only [Act.put, List.setIfInBounds_toArray, List.set_cons_zero, List.set_cons_succ]
      refine wpAnyS_go (i := 4) (some 42) (v := ?_) rfl rfl (by kernel_rfl) (by kernel_rfl) (by kernel_rfl) (fun _ _ _ h => h) (.inl ⟨by rfl, fun w hS => ?_⟩) ?_
      rotate_left
      · (try go_simp)
        refine ⟨?_, hS⟩
        with_reducible rfl
      simp only [Act.put, List.setIfInBounds_toArray, List.set_cons_zero, List.set_cons_succ]
      refine wpAnyS_go (i := 5) (some 43) (v := ?_) rfl rfl (by kernel_rfl) (by kernel_rfl) (by kernel_rfl) (fun _ _ _ h => h) (.inl ⟨by rfl, fun w hS => ?_⟩) ?_
      rotate_left
      · (try go_simp)
        refine ⟨?_, hS⟩
        with_reducible rfl
      simp only [Act.put, List.setIfInBounds_toArray, List.set_cons_zero, List.set_cons_succ]
      refine wpAnyS_go (i := 6) (some 44) (v := ?_) rfl rfl (by kernel_rfl) (by kernel_rfl) (by kernel_rfl) (fun _ _ _ h => h) (.inl ⟨by rfl, fun w hS => ?_⟩) ?_
      rotate_left
      · (try go_simp)
        refine ⟨?_, hS⟩
        with_reducible rfl
      simp only [Act.put, List.setIfInBounds_toArray, List.set_cons_zero, List.set_cons_succ]
      refine wpAnyS_go (i := 7) (some 45) (v := ?_) rfl rfl (by kernel_rfl) (by kernel_rfl) (by kernel_rfl) (fun _ _ _ h => h) (.inl ⟨by rfl, fun w hS => ?_⟩) ?_
      rotate_left
      · (try go_simp)
        refine ⟨?_, hS⟩
        with_reducible rfl
      simp only [Act.put, List.setIfInBounds_toArray, List.set_cons_zero, List.set_cons_succ]
      refine wpAnyS_go (i := 8) (some 46) (v := ?_) rfl rfl (by kernel_rfl) (by kernel_rfl) (by kernel_rfl) (fun _ _ _ h => h) (.inl ⟨by rfl, fun w hS => ?_⟩) ?_
      rotate_left
      · (try go_simp)
        refine ⟨?_, hS⟩
        with_reducible rfl
      simp only [Act.put, List.setIfInBounds_toArray, List.set_cons_zero, List.set_cons_succ]
      refine wpAnyS_go (i := 9) (some 47) (v := ?_) rfl rfl (by kernel_rfl) (by kernel_rfl) (by kernel_rfl) (fun _ _ _ h => h) (.inl ⟨by rfl, fun w hS => ?_⟩) ?_
      rotate_left
      · (try go_simp)
        refine ⟨?_, hS⟩
        with_reducible rfl
      simp only [Act.put, List.setIfInBounds_toArray, List.set_cons_zero, List.set_cons_succ]
      refine wpAnyS_go (i := 10) (some 7) (v := ?_) rfl rfl (by kernel_rfl) (by kernel_rfl) (by kernel_rfl) (fun _ _ _ h => h) (.inl ⟨by rfl, fun w hS => ?_⟩) ?_
      rotate_left
      · (try go_simp)
        refine ⟨?_, hS⟩
        with_reducible rfl
      simp only [Act.put, List.setIfInBounds_toArray, List.set_cons_zero, List.set_cons_succ]
      refine wpAnyS_done (by kernel_rfl) fun w2 hS2 => ?_
      have e3 : w2.cell? ⟨g.k, 0, none⟩ = some (.slice g.A n g.c) := Ext.cell hS2 e0
      have e4 : w2.cell? ⟨g.k, 1, none⟩ = some (.int .i64 (y : Nat)) := Ext.cell hS2 e1
      have hF2 := Lib.hid (hFg.out.keep (Keep.of_ext (bs := []) hS2) (by simp))
      have f3 := hF2.out.row.fro 0
      have f4 := (hF2.out.row.set 0 (.slice g.A z z)).fro 1
      have e5 : (w2.setCell ⟨g.k, 0, none⟩ (.slice g.A z z)).cell? ⟨g.k, 1, none⟩ = some (.int .i64 (y : Nat)) := by rw [hHy.out]; exact (hF2.out.row.set 0 (.slice g.A z z)).cell (i := 1) (by simp)
      go_wp2
      have hzb : z ≤ g.f.b.length := by rw [← hHn.out]; exact hzn
      have hcut := (hDg.out.ext hS2).cutAt hzb rfl
      have hcg : (⟨{ g.f with b := g.f.b.take z, sy := z }, g.k, g.A, z⟩ : GF) = cutG keep g := by
        unfold cutG
        rw [cutf_len keep hFg.out.sy, cutf_eq, hsz.out]
      rw [hcg, ← hst2.out, ← hL.out] at hcut
      have hne1 : ∀ x ∈ [g.k], x ∈ foot d mb L := fun x hx => by
        rw [List.mem_singleton.1 hx, hL.out]
        simp only [foot, List.mem_cons, List.mem_flatMap]
        exact .inr (.inr ⟨g, by simp, by simp [ownB]⟩)
      have hmbk : mb ∉ [g.k] := fun hm => by
        have := hDg.out.sep.of.2.2.2.1
        rw [List.mem_singleton.1 hm] at this
        exact this (by simp [ownB])
      have hrk : W.heap.size ∉ [g.k] := fun hm => by
        have h3 := hlt.out g.k (hne1 _ (by simp))
        have h4 := List.mem_singleton.1 hm
        omega
      have hrg5 := ranges_keep (ranges_keep hrg' (Keep.of_ext (bs := []) hS2) (by simp) (by simp)) hcut.2.2 hmbk hrk
      refine ⟨⟨_, cnt', hrg5, Lib.hid hcut.1, Lib.hid ((hS'.out.ext hS2).trans ⟨hcut.2.2.mono hne1, fun x hx => .inl hx⟩)⟩, ?_⟩
      rw [hrg5.left_eq, hrg.left_eq]
      exact hlt'
theorem power_any (B d mb : Nat) (S : DS) (L : List GF) (keep : Int) (w : World) (h : DiskAt w B d mb S L) (hkp : -9223372036854775808 ≤ keep ∧ keep ≤ 9223372036854775807) :
    Calls Tryd.prog 11 #[.pointer (some ⟨d, 0, none⟩), .int .i64 keep] w fun e w' => e = .returned (.tuple #[]) ∧ Done w B d mb L (Dk.pow S keep) w' := by
  cases ho : S.off
  · refine (power_on B d mb S L keep w h ho).mono fun e w' hh => ⟨hh.1, ?_⟩
    have e1 : Dk.pow S keep = { S with bud := -1 } := if_neg (by rw [ho]; simp)
    rw [e1]
    exact Done.d hh.2.1 hh.2.2
  · refine (power_off B d mb S L keep w (Lib.hid h) hkp ho).mono fun e w' hh => ⟨hh.1, ?_⟩
    have e1 : Dk.pow S keep = { S with bud := -1, off := false, l := S.l.map (cutf keep) } := if_pos ho
    rw [e1]
    exact ⟨_, hh.2.1, hh.2.2, by simp⟩
end Go.Proofs.YtkgnaabmcboffaaDoor
