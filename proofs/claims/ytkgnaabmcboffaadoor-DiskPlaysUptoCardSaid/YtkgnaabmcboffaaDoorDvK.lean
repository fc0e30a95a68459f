/-
  Walks of the disk: a copy of it.
-/
import Derived.Test.YtkgnaabmcboffaaDoorDvN
set_option linter.unusedSimpArgs false
set_option linter.unusedVariables false
namespace Go.Proofs.YtkgnaabmcboffaaDoor
open Go.RowKit Go.Cv Go.Cv.Dk
/-- A file comes, with its bytes. -/
theorem DiskAt.put {w : World} {B d mb sy c : Nat} {S : DS} {L : List GF} {A : Option Addr} {b : List UInt8} (h : DiskAt w B d mb S L) {s : ByteArray} (hs : s.size ≤ 281474976710656) (hn : Dk.get S.l s.data.toList = none) (hL : L.length < maxLen)
    (hF : FS w B A c b) (hap : ∀ x ∈ rowOf A, x ∉ foot d mb L) (hsy : sy ≤ b.length) (hlen : b.length ≤ 140737488355328) (hok : DS.Ok { S with l := ins PF.nm ⟨s.data.toList, b, sy⟩ S.l }) :
    ∃ w' l1 l2, (Instr.mapUpdate 50 (.map (some mb)) (.string s) (.pointer (some ⟨w.heap.size, 0, none⟩))).run Tryd.prog (w.alloc (.cells #[.slice A b.length c, .int .i64 (sy : Nat)] 57)) = .ok () w' ∧ L = l1 ++ l2 ∧
      DiskAt w' B d mb { S with l := ins PF.nm ⟨s.data.toList, b, sy⟩ S.l } (l1 ++ ⟨⟨s.data.toList, b, sy⟩, w.heap.size, A, c⟩ :: l2) ∧ Keep [mb] w w' := by
  have hnn := h.inone hn
  have hlt := h.lt
  have hE := ext_alloc w (.cells #[.slice A b.length c, .int .i64 (sy : Nat)] 57)
  have h1 := h.ext hE
  obtain ⟨w', hrun, hM, hk⟩ := h1.map.store (s := s) (by unfold maxLen; omega) hL ⟨⟨s.data.toList, b, sy⟩, w.heap.size, A, c⟩ rfl
  rw [filter_all_ (fun z hz => by simpa using hnn z hz)] at hM
  obtain ⟨l1, l2, e1, e2⟩ := ins_split GF.nm (⟨⟨s.data.toList, b, sy⟩, w.heap.size, A, c⟩ : GF) L
  have e3 := e2
  rw [e2] at hM
  have hmb : mb < w.heap.size := hlt mb (by simp [foot])
  have hmne : ∀ x, x ∈ foot d mb L → x ≠ mb → x ∉ [mb] := fun x _ hne hm => hne (List.mem_singleton.1 hm)
  have hin : ∀ z ∈ L, ∀ x ∈ ownB z, x ∈ foot d mb L := fun z hz x hx => by
    simp only [foot, List.mem_cons, List.mem_flatMap]
    exact .inr (.inr ⟨z, hz, hx⟩)
  have hmz : ∀ z ∈ L, mb ∉ ownB z := fun z hz => (h.sep.each z hz).2.2
  have hA : ∀ x ∈ rowOf A, x < w.heap.size := fun x hx => (hF.ge x hx).2
  refine ⟨w', l1, l2, hrun, e1, ⟨h1.row.keep hk (hmne d (by simp [foot]) h.sep.dm), hM, fun z hz => ?_, ?_, ?_, h.ge, hok⟩, (Keep.of_ext (bs := [mb]) hE).same hk⟩
  · rcases List.mem_append.1 hz with hz | hz
    · exact (h1.fl z (by rw [e1]; simp [hz])).keep hk fun x hx => hmne x (hin z (by rw [e1]; simp [hz]) x hx) fun e => hmz z (by rw [e1]; simp [hz]) (e ▸ hx)
    · rcases List.mem_cons.1 hz with rfl | hz
      · have hF' : FS w' B A c b := (hF.keep (Keep.of_ext (bs := []) hE) (by simp)).keep hk fun x hx hm => hap x hx (by rw [List.mem_singleton.1 hm]; simp [foot])
        refine FS.file (g := ⟨⟨s.data.toList, b, sy⟩, w.heap.size, A, c⟩) hF' ?_ hsy ?_ hlen
        · have := Row.alloc w [.slice A b.length c, .int .i64 (sy : Nat)] 57
          exact this.keep hk (fun hm => by have := List.mem_singleton.1 hm; omega)
        · show B ≤ w.heap.size
          have := hlt d (by simp [foot])
          have := h.ge.1
          omega
      · exact (h1.fl z (by rw [e1]; simp [hz])).keep hk fun x hx => hmne x (hin z (by rw [e1]; simp [hz]) x hx) fun e => hmz z (by rw [e1]; simp [hz]) (e ▸ hx)
  · have hsp := h.sep
    rw [e1] at hsp hap hlt
    refine hsp.add (fun hm => by have := hA _ hm; simp at this) fun x hx => ?_
    simp only [ownB, List.mem_cons] at hx
    rcases hx with rfl | hx
    · have hd := hlt d (by simp [foot])
      refine ⟨fun e => ?_, fun e => ?_, fun z hz hm => ?_⟩
      · have e : w.heap.size = d := e; omega
      · have e : w.heap.size = mb := e; omega
      · have := hlt w.heap.size (by simp only [foot, List.mem_cons, List.mem_flatMap]; exact .inr (.inr ⟨z, hz, hm⟩))
        omega
    · have hx' := hap x hx
      simp only [foot, List.mem_cons, List.mem_flatMap, not_or, not_exists, not_and] at hx'
      exact ⟨hx'.1, hx'.2.1, fun z hz hm => hx'.2.2 z hz hm⟩
  · rw [h.ls, ← e2]
    exact (ins_map (key := GF.nm) (key' := PF.nm) (f := GF.f) (fun _ => rfl) ⟨⟨s.data.toList, b, sy⟩, w.heap.size, A, c⟩ L).symm
/-- The files met. -/
def Lf (L : List GF) (left : Lit → Bool) : List PF := (L.filter fun g => !left (.string g.f.nm)).map GF.f
theorem lf_none {L : List GF} {left : Lit → Bool} (h : ∀ g ∈ L, left (.string g.f.nm) = true) : Lf L left = [] := by
  unfold Lf
  rw [List.filter_eq_nil_iff.2 (fun g hg => by rw [h g hg]; simp)]
  rfl
theorem lf_all {L : List GF} {left : Lit → Bool} (h : ∀ g ∈ L, left (.string g.f.nm) = false) : Lf L left = L.map GF.f := by
  unfold Lf
  rw [filter_all_ (fun g hg => by rw [h g hg]; rfl)]
theorem ins_mid {f : PF} : ∀ {l1 l2 : List PF}, (∀ z ∈ l1, bytesBefore z.nm f.nm = true) → (∀ z ∈ l2, bytesBefore f.nm z.nm = true) → ins PF.nm f (l1 ++ l2) = l1 ++ f :: l2
  | [], [], _, _ => rfl
  | [], y :: r, _, h2 => by simp [ins, h2 y (by simp)]
  | y :: l1, l2, h1, h2 => by
    have hy := h1 y (by simp)
    have hn : bytesBefore f.nm y.nm = false := by
      rcases hq : bytesBefore f.nm y.nm with _ | _
      · rfl
      · have := bb_trans hy hq
        rw [bb_irrefl] at this
        cases this
    simp only [List.cons_append, ins]
    rw [if_neg (by rw [hn]; simp), ins_mid (l1 := l1) (fun z hz => h1 z (by simp [hz])) h2]
theorem lf_step {l1 l2 : List GF} {g : GF} {left : Lit → Bool} (hr : Ris GF.nm (l1 ++ g :: l2)) (hl : left (.string g.f.nm) = true) :
    Lf (l1 ++ g :: l2) (fun z => left z && !z.sameKey (.string g.f.nm)) = ins PF.nm g.f (Lf (l1 ++ g :: l2) left) ∧ (∀ z ∈ Lf (l1 ++ g :: l2) left, z.nm ≠ g.f.nm) := by
  have h12 := List.pairwise_append.1 hr
  have hb1 : ∀ z ∈ l1, bytesBefore z.f.nm g.f.nm = true := fun z hz => h12.2.2 z hz g (by simp)
  have hb2 : ∀ z ∈ l2, bytesBefore g.f.nm z.f.nm = true := fun z hz => (List.pairwise_cons.1 h12.2.1).1 z hz
  have h1 := (ris_after hr).1
  have h2 := (ris_after hr).2
  have e : ∀ l : List GF, (∀ z ∈ l, z.f.nm ≠ g.f.nm) → (l.filter fun z => !(left (.string z.f.nm) && !(Lit.string z.f.nm).sameKey (.string g.f.nm))) = l.filter fun z => !left (.string z.f.nm) := fun l hl => List.filter_congr fun z hz => by
    have : (Lit.string z.f.nm).sameKey (.string g.f.nm) = false := by simpa [Lit.sameKey] using hl z hz
    rw [this]; simp
  unfold Lf
  rw [List.filter_append, List.filter_cons_of_pos (by simp [Lit.sameKey]), e l1 h1, e l2 h2, List.filter_append, List.filter_cons_of_neg (by simp [hl]), List.map_append, List.map_cons, List.map_append]
  refine ⟨(ins_mid (fun z hz => ?_) (fun z hz => ?_)).symm, fun z hz => ?_⟩
  · obtain ⟨u, hu, rfl⟩ := List.mem_map.1 hz; exact hb1 u (List.mem_filter.1 hu).1
  · obtain ⟨u, hu, rfl⟩ := List.mem_map.1 hz; exact hb2 u (List.mem_filter.1 hu).1
  · rcases List.mem_append.1 hz with hz | hz
    · obtain ⟨u, hu, rfl⟩ := List.mem_map.1 hz; exact h1 u (List.mem_filter.1 hu).1
    · obtain ⟨u, hu, rfl⟩ := List.mem_map.1 hz; exact h2 u (List.mem_filter.1 hu).1
theorem used_filter (L : List GF) (p : GF → Bool) : used ((L.filter p).map GF.f) ≤ used (L.map GF.f) := by
  induction L with
  | nil => simp [used]
  | cons g r ih =>
    rw [List.map_cons, used_cons]
    by_cases h : p g = true
    · rw [List.filter_cons_of_pos h, List.map_cons, used_cons]; omega
    · rw [List.filter_cons_of_neg h]; omega
theorem ok_lf {S : DS} (h : S.Ok) {L : List GF} (hl : S.l = L.map GF.f) (left : Lit → Bool) : DS.Ok { S with l := Lf L left } := by
  have hs : (Lf L left).Sublist S.l := by rw [hl]; exact List.Sublist.map _ List.filter_sublist
  refine ⟨h.r0, h.r1, h.b0, h.b1, ?_, fun f hf => h.nm f (hs.subset hf), fun f hf => h.sy f (hs.subset hf), h.ris.sublist hs⟩
  have h1 := used_filter L fun g => !left (.string g.f.nm)
  have h2 := h.u
  rw [hl] at h2
  show (used (Lf L left) : Int) ≤ S.room
  unfold Lf
  omega
theorem foot_put {k mb' x q c2 : Nat} {M m1 m2 : List GF} {g : GF} {A2 : Option Addr} {w' w1 w2 wr : World} {left : Lit → Bool} (h : x ∉ foot k mb' M) (hM : M = m1 ++ m2) (hx : Ext w' w2) (hs : wr.heap.size ≤ w'.heap.size) (hlt : x < wr.heap.size) (ho : w2.ownsRow w1.heap.size 5 1 (.slice A2 q c2) q (g.f.b.map bv)) (hw1 : w'.heap.size ≤ w1.heap.size := by exact (ext_drew _).size) :
    x ∉ foot k mb' (m1 ++ ⟨g.f, w2.heap.size, A2, c2⟩ :: m2) := fun hm => by
  subst hM
  have h2 := hx.size
  simp only [foot, List.mem_cons, List.mem_flatMap, List.mem_append] at hm h
  rcases hm with rfl | rfl | ⟨z, hz, hm⟩
  · exact h (.inl rfl)
  · exact h (.inr (.inl rfl))
  · rcases hz with hz | rfl | hz
    · exact h (.inr (.inr ⟨z, .inl hz, hm⟩))
    · simp only [ownB, List.mem_cons] at hm
      rcases hm with hm | hm
      · have hm : x = w2.heap.size := hm; omega
      · have := (ho.lt x (rowOf_own (A := A2) hm)).1; omega
    · exact h (.inr (.inr ⟨z, .inr hz, hm⟩))
/-- One file of the copy. -/
theorem copy_put {B k q c2 mb' : Nat} {S : DS} {L M : List GF} {g : GF} {left : Lit → Bool} {s : ByteArray} {A2 : Option Addr} {w' w1 w2 : World} (hD : DiskAt w' B k mb' { S with l := Lf L left } M) (hx : Ext w' w2) (ho : w2.ownsRow w1.heap.size 5 1 (.slice A2 q c2) q (g.f.b.map bv))
    (hq : q = g.f.b.length) (hnm : g.f.nm = s.data.toList) (hno : ∀ z ∈ Lf L left, z.nm ≠ g.f.nm) (hs : s.size ≤ 281474976710656) (hML : M.length ≤ L.length) (hL : L.length ≤ 1099511627776) (hsy : g.f.sy ≤ q) (hlen : q ≤ 140737488355328)
    (hok : DS.Ok { S with l := ins PF.nm g.f (Lf L left) }) (hw1 : w'.heap.size ≤ w1.heap.size := by exact (ext_drew _).size) (hB1 : B ≤ w1.heap.size := by assumption) :
    ∃ w3 m1 m2, (Instr.mapUpdate 50 (.map (some mb')) (.string s) (.pointer (some ⟨w2.heap.size, 0, none⟩))).run Tryd.prog (w2.alloc (.cells #[.slice A2 q c2, .int .i64 (g.f.sy : Nat)] 57)) = .ok () w3 ∧ M = m1 ++ m2 ∧
      DiskAt w3 B k mb' { S with l := ins PF.nm g.f (Lf L left) } (m1 ++ ⟨g.f, w2.heap.size, A2, c2⟩ :: m2) ∧ Keep [mb'] w2 w3 := by
  have hF : FS w2 B A2 c2 g.f.b := FS.of_own (own_base ho hB1) hq.symm
  have hap : ∀ x ∈ rowOf A2, x ∉ foot k mb' M := fun x hx hm => by
    have h1 := (ho.lt x (rowOf_own hx)).1
    have h2 := hD.lt x hm
    omega
  have hgf : (⟨s.data.toList, g.f.b, g.f.sy⟩ : PF) = g.f := by rw [← hnm]
  obtain ⟨w3, m1, m2, h1, h2, h3, h4⟩ := (hD.ext hx).put (s := s) (sy := g.f.sy) hs (by
    unfold Dk.get
    exact List.find?_eq_none.2 fun z hz => by rw [← hnm]; simpa using hno z hz) (by unfold maxLen; omega) hF hap (by omega) (by omega) (by rw [hgf]; exact hok)
  rw [hgf] at h3
  rw [← hq] at h1
  exact ⟨w3, m1, m2, h1, h2, h3, h4⟩
set_option maxRecDepth 20000 in
set_option maxHeartbeats 3200000 in
theorem dclone_any (B d mb : Nat) (S : DS) (L : List GF) (w : World) (h : DiskAt w B d mb S L) (hL : L.length ≤ 1099511627776) :
    Calls Tryd.prog 14 #[.pointer (some ⟨d, 0, none⟩)] w fun e w' => ∃ bs, e = .returned (.pointer (some ⟨w.heap.size, 0, none⟩)) ∧ Dsk w' w.heap.size w.heap.size S bs ∧ Ext w w' := by
  refine calls_hid fun G hG => ?_
  have hm := @run_makeMap Tryd.prog
  have c0 : w.cell? ⟨d, 0, none⟩ = some (.int .i64 S.room) := h.row.cell (i := 0) (by simp)
  have c1 : w.cell? ⟨d, 1, none⟩ = some (.map (some mb)) := h.row.cell (i := 1) (by simp)
  have c2 : w.cell? ⟨d, 2, none⟩ = some (.bool S.off) := h.row.cell (i := 2) (by simp)
  have c3 : w.cell? ⟨d, 3, none⟩ = some (.int .i64 S.bud) := h.row.cell (i := 3) (by simp)
  have c4 : w.cell? ⟨d, 4, none⟩ = some (.int .i64 S.st) := h.row.cell (i := 4) (by simp)
  have hown := h.map
  have hdl := h.row.lt
  have hml := h.map.lt
  have hls := Lib.hid h.ls
  have hfl := Lib.hid h.fl
  have hok := Lib.hid h.ok
  have hris := Lib.hid h.map.ris
  obtain ⟨W0, hW0⟩ : ∃ W0, W0 = (w.alloc (.cells #[.int .i64 S.room, .map (some (w.heap.size + 1)), .bool S.off, .int .i64 S.bud, .int .i64 S.st] 52)).alloc (.map #[] 0) := ⟨_, rfl⟩
  have hx0 : Ext w W0 := by rw [hW0]; exact (ext_alloc _ _).trans (ext_alloc _ _)
  have hsW : W0.heap.size = w.heap.size + 2 := by rw [hW0]; simp
  have hD0 : DiskAt W0 w.heap.size w.heap.size (w.heap.size + 1) { S with l := [] } [] := by
    have e1 : (w.alloc (.cells #[.int .i64 S.room, .map (some (w.heap.size + 1)), .bool S.off, .int .i64 S.bud, .int .i64 S.st] 52)).heap.size = w.heap.size + 1 := by simp
    refine ⟨?_, ?_, by simp, ⟨by omega, by simp, List.Pairwise.nil⟩, rfl, ⟨Nat.le_refl _, by omega⟩, ⟨hok.out.r0, hok.out.r1, hok.out.b0, hok.out.b1, ?_, by simp, by simp, List.Pairwise.nil⟩⟩
    · rw [hW0]
      exact (Row.alloc w [.int .i64 S.room, .map (some (w.heap.size + 1)), .bool S.off, .int .i64 S.bud, .int .i64 S.st] 52).ext (ext_alloc _ _)
    · have := MapAt.made (w.alloc (.cells #[.int .i64 S.room, .map (some (w.heap.size + 1)), .bool S.off, .int .i64 S.bud, .int .i64 S.st] 52))
      rw [e1, ← hW0] at this
      exact this
    · have := hok.out.r0
      show ((used [] : Nat) : Int) ≤ S.room
      simpa [used] using this
  clear h
  unfold MapAt at hown
  have hown0 := own_keepm hown (Keep.of_ext (bs := []) hx0) (by simp)
  have hg : ∀ w' M, DiskAt w' w.heap.size w.heap.size (w.heap.size + 1) S M → Ext w w' → G (.returned (.pointer (some ⟨w.heap.size, 0, none⟩))) w' := fun w' M h1 h2 => hG.out _ _ ⟨_, rfl, ⟨_, M, h1, rfl⟩, h2⟩
  replace hg := Lib.hid hg
  replace hsW := Lib.hid hsW
  replace hW0 := Lib.hid hW0
  replace hD0 := Lib.hid hD0
  clear hG
  go_enter Tryd.func14, Tryd.ntmps14
  go_wp2_with (at_range; rw [← hW0.out]; refine wpList_range_own _ rfl _ 50 rfl 9 55 strK Tryd.underlying50 RF mb L.length (.map (ents L)) rfl hown0 ?_; intro w0 hrg0 hg0 hs0)
  go_frame
  have hxg : Ext W0 w0 := ext_grown hg0
  clear c0 c1 c2 c3 c4 hm
  go_loopw [5] (fun t wr => ∃ (left : Lit → Bool) (cnt : Nat) (M : List GF), wr.ranges Tryd.prog 9 RF mb W0.heap.size L.length (.map (ents L)) left cnt ∧ Hid (DiskAt wr w.heap.size w.heap.size (w.heap.size + 1) { S with l := Lf L left } M) ∧ Hid (W0.heap.size ∉ foot w.heap.size (w.heap.size + 1) M) ∧ Ext w wr ∧ W0.heap.size < wr.heap.size) (fun _ wr => wr.rangeLeft mb W0.heap.size)
  case atStart =>
    refine ⟨_, _, [], hrg0, Lib.hid ?_, Lib.hid ?_, hx0.trans hxg, by omega⟩
    · rw [lf_none has_all]; exact hD0.out.ext hxg
    · simp only [foot, List.flatMap_nil, List.mem_cons, List.not_mem_nil, or_false, not_or]; have := hsW.out; omega
  case round =>
    obtain ⟨left, cnt, M, hrg, hD, hnr, hE, hsz⟩ := hrel
    go_wp2_with (at_next; refine wpList_next_files rfl _ rfl mb W0.heap.size L.length L left cnt rfl hrg ?_ ?_)
    · intro hdone
      have hgg := hg.out wr M (by have := hD.out; rw [lf_all hdone, ← hls.out] at this; exact this) hE
      clear hg hD hnr hrg hown hown0 hrg0
      go_wp2
      exact hgg
    · intro l1 l2 g s w' cnt' hLe hnm hl hrg' hlt' hk hen
      have hgm : g ∈ L := by rw [hLe.out]; simp
      have hE' : Ext w w' := ext_keep hE hk (by intro x hx; rw [List.mem_singleton.1 hx]; have := hsW.out; omega)
      have hF := (hfl.out g hgm).keep (Keep.of_ext (bs := []) hE') (by simp)
      have e0 : w'.cell? ⟨g.k, 0, none⟩ = some (.slice g.A g.f.b.length g.c) := hF.row.cell (i := 0) (by simp)
      have e1 : w'.cell? ⟨g.k, 1, none⟩ = some (.int .i64 (g.f.sy : Nat)) := hF.row.cell (i := 1) (by simp)
      have hDn := hD.out.keep hk (fun x hx hm => hnr.out (by rw [List.mem_singleton.1 hm] at hx; exact hx))
      have v1 : w'.cell? ⟨w.heap.size, 1, none⟩ = some (.map (some (w.heap.size + 1))) := hDn.row.cell (i := 1) (by simp)
      have hris' := hris.out
      rw [hLe.out] at hris'
      obtain ⟨hst1, hst2⟩ := lf_step hris' hl.out
      rw [← hLe.out] at hst1 hst2
      have hC : ∀ w1, Ext w' w1 → Calls Tryd.prog 22 #[.slice g.A g.f.b.length g.c] w1 fun e w'' => ∃ v, e = .returned v ∧ RetB w1 g.f.b.length g.f.b v w'' := fun w1 hx => clone_any g.A g.f.b.length g.c g.f.b w1 rfl (hF.rd.ext hx) hF.nil hF.len
      have hlen := hF.len
      have hsy := hF.sy
      have hsS : s.size ≤ 281474976710656 := by
        have h1 := hok.out.nm g.f (by rw [hls.out]; exact List.mem_map.2 ⟨g, hgm, rfl⟩)
        unfold nameOk at h1
        rw [Bool.and_eq_true] at h1
        have h2 := of_decide_eq_true h1.1
        rw [hnm.out, Array.length_toList] at h2
        have : s.size = s.data.size := rfl
        omega
      have hML : M.length ≤ L.length := by
        have h1 := congrArg List.length hDn.ls
        have h2 : (Lf L left).length ≤ L.length := by unfold Lf; rw [List.length_map]; exact List.length_filter_le _ _
        rw [List.length_map] at h1
        have h1 : (Lf L left).length = M.length := h1
        omega
      have hBn : w.heap.size ≤ w'.heap.size := hE'.size
      have hokn := ok_lf hok.out hls.out (fun z => left z && !z.sameKey (.string g.f.nm))
      rw [hst1] at hokn
      obtain ⟨q, hq⟩ : ∃ q, q = g.f.b.length := ⟨_, rfl⟩
      rw [← hq] at e0 hC hlen hsy
      replace hq := Lib.hid hq
      replace hst1 := Lib.hid hst1
      replace hst2 := Lib.hid hst2
      replace hDn := Lib.hid hDn
      replace hF := Lib.hid hF
      replace hokn := Lib.hid hokn
      clear hg hrg0 hown hown0 hris' hD
      go_wp2_with fail
      go_region_law (go_simp; go_at_call 22; ((with_reducible refine (hC _ (ext_drew _)).mono ?_); rintro e w2 ⟨v, rfl, A2, c2, rfl, hx2, ho2, hc2, hm2, hr2⟩; have hxx : Ext w' w2 := (ext_drew _).trans hx2; have e1' := hxx.cell e1; have v1' := hxx.cell v1; have v1a := (ext_alloc w2 (.cells #[.slice A2 q c2, .int .i64 (g.f.sy : Nat)] 57)).cell v1'; obtain ⟨w3, m1, m2, hst, hMe, hD3, hk3⟩ := copy_put hDn.out hxx ho2 hq.out hnm.out hst2.out hsS hML hL hsy hlen hokn.out; have hE3 : Ext w w3 := ext_keep (hE'.trans hxx) hk3 (by intro x hx; rw [List.mem_singleton.1 hx]; omega); have hr3 := ranges_keep (ranges_keep hrg' (Keep.of_ext (bs := []) hxx) (by simp) (by simp)) hk3 (by intro hm; have := List.mem_singleton.1 hm; omega) (by intro hm; have := List.mem_singleton.1 hm; have := hsW.out; omega); have hnr3 := foot_put (left := left) hnr.out hMe hxx hk.size hsz ho2))
      all_goals
        have hk3s := hk3.size
        have hxs := hxx.size
        have hks := hk.size
        go_wp2
        go_roundw
        case rel => exact ⟨_, cnt', _, hr3, Lib.hid (by rw [hst1.out]; exact hD3), Lib.hid hnr3, hE3, by omega⟩
        case measure => rw [hr3.left_eq, hrg.left_eq]; omega
end Go.Proofs.YtkgnaabmcboffaaDoor
