/-
  Walks of the disk: append.
-/
import Derived.Test.YtkgnaabmcboffaaDoorDkD
import Derived.Deep.CutRange
set_option linter.unusedSimpArgs false
set_option linter.unusedVariables false
namespace Go.Proofs.YtkgnaabmcboffaaDoor
open Go.RowKit Go.Cv Go.Cv.Dk
theorem ok_add {S : DS} (h : S.Ok) {x : List UInt8} (hx : nameOk x = true) (hn : Dk.get S.l x = none) : DS.Ok { S with l := ins PF.nm ⟨x, [], 0⟩ S.l } := by
  have hm := ins_mem PF.nm ⟨x, [], 0⟩ S.l
  refine ⟨h.r0, h.r1, h.b0, h.b1, ?_, fun y hy => ?_, fun y hy => ?_, h.ris.ins fun y hy => get_none hn y hy⟩
  · show (used (ins PF.nm ⟨x, [], 0⟩ S.l) : Int) ≤ S.room
    obtain ⟨l1, l2, e1, e2⟩ := ins_split PF.nm ⟨x, [], 0⟩ S.l
    have := h.u
    rw [e2, used_app, used_cons]
    rw [e1, used_app] at this
    show ((used l1 + (0 + used l2) : Nat) : Int) ≤ S.room
    omega
  · rcases (hm y).1 hy with rfl | hy
    · exact hx
    · exact h.nm y hy
  · rcases (hm y).1 hy with rfl | hy
    · exact Nat.le_refl _
    · exact h.sy y hy
/-- A file comes. -/
theorem DiskAt.add {w : World} {B d mb : Nat} {S : DS} {L : List GF} (h : DiskAt w B d mb S L) {s : ByteArray} (hs : s.size ≤ 281474976710656) (hx : nameOk s.data.toList = true) (hn : Dk.get S.l s.data.toList = none) (hL : L.length < maxLen) :
    ∃ w' l1 l2, (Instr.mapUpdate 50 (.map (some mb)) (.string s) (.pointer (some ⟨w.heap.size, 0, none⟩))).run Tryd.prog (w.alloc (.cells #[.slice none 0 0, .int .i64 0] 57)) = .ok () w' ∧ L = l1 ++ l2 ∧
      DiskAt w' B d mb { S with l := ins PF.nm ⟨s.data.toList, [], 0⟩ S.l } (l1 ++ ⟨⟨s.data.toList, [], 0⟩, w.heap.size, none, 0⟩ :: l2) ∧
      Stp (foot d mb L) (foot d mb (l1 ++ ⟨⟨s.data.toList, [], 0⟩, w.heap.size, none, 0⟩ :: l2)) w w' ∧ (∀ z ∈ l1 ++ l2, z.f.nm ≠ s.data.toList) := by
  have hnn := h.inone hn
  have hlt := h.lt
  have hE := ext_alloc w (.cells #[.slice none 0 0, .int .i64 0] 57)
  have h1 := h.ext hE
  obtain ⟨w', hrun, hM, hk⟩ := h1.map.store (s := s) (by unfold maxLen; omega) hL ⟨⟨s.data.toList, [], 0⟩, w.heap.size, none, 0⟩ rfl
  rw [filter_all_ (fun z hz => by simpa using hnn z hz)] at hM
  obtain ⟨l1, l2, e1, e2⟩ := ins_split GF.nm (⟨⟨s.data.toList, [], 0⟩, w.heap.size, none, 0⟩ : GF) L
  rw [e2] at hM
  have hsz : (w.alloc (.cells #[.slice none 0 0, .int .i64 0] 57)).heap.size = w.heap.size + 1 := by simp
  have hmne : ∀ x, x ∈ foot d mb L → x ≠ mb → x ∉ [mb] := fun x _ hne hm => hne (List.mem_singleton.1 hm)
  have hin : ∀ z ∈ L, ∀ x ∈ ownB z, x ∈ foot d mb L := fun z hz x hx => by
    simp only [foot, List.mem_cons, List.mem_flatMap]
    exact .inr (.inr ⟨z, hz, hx⟩)
  have hmz : ∀ z ∈ L, mb ∉ ownB z := fun z hz => (h.sep.each z hz).2.2
  have hE2 : Stp (foot d mb L) (foot d mb (l1 ++ ⟨⟨s.data.toList, [], 0⟩, w.heap.size, none, 0⟩ :: l2)) w w' := ⟨(Keep.of_ext hE).trans hk fun x hx => .inl (by rw [List.mem_singleton.1 hx]; simp [foot]), fun x hx => by
    simp only [foot, List.mem_cons, List.mem_flatMap] at hx
    rcases hx with rfl | rfl | ⟨z, hz, hx⟩
    · exact .inl (by simp [foot])
    · exact .inl (by simp [foot])
    · rcases List.mem_append.1 hz with hz | hz
      · exact .inl (hin z (by rw [e1]; simp [hz]) x hx)
      · rcases List.mem_cons.1 hz with rfl | hz
        · simp [ownB, rowOf] at hx
          exact .inr (by omega)
        · exact .inl (hin z (by rw [e1]; simp [hz]) x hx)⟩
  refine ⟨w', l1, l2, hrun, e1, ⟨?_, hM, fun z hz => ?_, ?_, ?_, h.ge, ok_add h.ok hx hn⟩, hE2, fun z hz => hnn z (by rw [e1]; exact hz)⟩
  · exact h1.row.keep hk (hmne d (by simp [foot]) h.sep.dm)
  · rcases List.mem_append.1 hz with hz | hz
    · exact (h1.fl z (by rw [e1]; simp [hz])).keep hk fun x hx => hmne x (hin z (by rw [e1]; simp [hz]) x hx) fun e => hmz z (by rw [e1]; simp [hz]) (e ▸ hx)
    · rcases List.mem_cons.1 hz with rfl | hz
      · refine ⟨?_, Rd.nil_, Nat.le_refl _, by show 0 ≤ maxLen; omega, Nat.le_refl _, .inl (World.ownsRow_nil _ _ _ 1), fun _ => ⟨rfl, rfl⟩, by simp, ?_, by simp [rowOf]⟩
        · have := Row.alloc w [.slice none 0 0, .int .i64 0] 57
          exact this.keep hk (fun hm => by
            have h3 := List.mem_singleton.1 hm
            have := hlt mb (by simp [foot])
            omega)
        · show B ≤ w.heap.size
          have := hlt d (by simp [foot])
          have := h.ge.1
          omega
      · exact (h1.fl z (by rw [e1]; simp [hz])).keep hk fun x hx => hmne x (hin z (by rw [e1]; simp [hz]) x hx) fun e => hmz z (by rw [e1]; simp [hz]) (e ▸ hx)
  · have hsp := h.sep
    rw [e1] at hsp
    refine hsp.add (by simp [rowOf]) fun x hx => ?_
    simp [ownB, rowOf] at hx
    subst hx
    refine ⟨fun e => ?_, fun e => ?_, fun z hz hm => ?_⟩
    · have := hlt d (by simp [foot]); omega
    · have := hlt mb (by simp [foot]); omega
    · have := hlt _ (hin z (by rw [e1]; exact hz) _ hm); omega
  · show ins PF.nm ⟨s.data.toList, [], 0⟩ S.l = _
    rw [h.ls, ← e2]
    exact (ins_map (key := GF.nm) (key' := PF.nm) (f := GF.f) (fun _ => rfl) ⟨⟨s.data.toList, [], 0⟩, w.heap.size, none, 0⟩ L).symm
set_option maxRecDepth 4000 in
set_option maxHeartbeats 1600000 in
theorem append_no (B d mb : Nat) (S : DS) (L : List GF) (s : ByteArray) (A : Option Addr) (n c : Nat) (b : List UInt8) (w : World) (h : Hid (DiskAt w B d mb S L)) (hs : s.size ≤ 281474976710656) (hl : Hid (b.length = n)) (hn47 : n ≤ 281474976710656) (hf : (app wrap64 S s.data.toList b).1 ≠ 0) (hq : S.off = true ∨ nameOk s.data.toList = false ∨ (n : Int) > S.room - used S.l) :
    Calls Tryd.prog 7 #[.pointer (some ⟨d, 0, none⟩), .string s, .slice A n c] w fun e w' => e = .returned (errV (app wrap64 S s.data.toList b).1) ∧ Ext w w' ∧ (app wrap64 S s.data.toList b).2 = S := by
  refine calls_hid fun G hG => ?_
  have hN := named_any s w hs
  by_cases h1 : nameOk s.data.toList = false
  · have hg : ∀ w', Ext w w' → G (.returned (errV 1)) w' := fun w' hx => hG.out _ _ (by
      have e : app wrap64 S s.data.toList b = (1, S) := by unfold app; rw [if_pos h1]
      rw [e]; exact ⟨rfl, hx, rfl⟩)
    rw [h1] at hN
    replace hg := Lib.hid hg
    clear hG h hf hq h1
    go_enter Tryd.func7, Tryd.ntmps7
    go_wp2_with (go_at_call 18; with_reducible refine hN.mono ?_; rintro e w' ⟨rfl, hx0⟩)
    exact hg.out _ hx0
  · replace h1 : nameOk s.data.toList = true := by simpa using h1
    rw [h1] at hN
    by_cases ho : S.off = true
    · have hg : ∀ w', Ext w w' → G (.returned (errV 11)) w' := fun w' hx => hG.out _ _ (by
        have e : app wrap64 S s.data.toList b = (11, S) := by unfold app; rw [if_neg (by rw [h1]; simp), if_pos ho]
        rw [e]; exact ⟨rfl, hx, rfl⟩)
      replace hg := Lib.hid hg
      clear hG hf hq h1
      go_enter Tryd.func7, Tryd.ntmps7
      go_wp2_with (go_at_call 18; with_reducible refine hN.mono ?_; rintro e w' ⟨rfl, hx0⟩; have c2 : w'.cell? ⟨d, 2, none⟩ = some (.bool S.off) := (h.out.ext hx0).row.cell (i := 2) (by simp); rw [ho] at c2)
      exact hg.out _ hx0
    · replace ho : S.off = false := by simpa using ho
      have h3 : (n : Int) > S.room - used S.l := by
        rcases hq with h3 | h3 | h3
        · rw [ho] at h3; cases h3
        · rw [h1] at h3; cases h3
        · exact h3
      have hg : ∀ w', Ext w w' → G (.returned (errV 12)) w' := fun w' hx => hG.out _ _ (by
        have e : app wrap64 S s.data.toList b = (12, S) := by unfold app; rw [if_neg (by rw [h1]; simp), if_neg (by rw [ho]; simp), if_pos (by rw [hl.out]; exact h3)]
        rw [e]; exact ⟨rfl, hx, rfl⟩)
      have hu := h.out.ok.u
      have hr1 := h.out.ok.r1
      have hr0 := h.out.ok.r0
      have hwr : IntKind.i64.wrap (S.room - (used S.l : Nat)) = S.room - (used S.l : Nat) := IntWalk.i64_in _ (by omega)
      replace hg := Lib.hid hg
      clear hG hf hq h1
      go_enter Tryd.func7, Tryd.ntmps7
      go_upto_region 5 with (go_at_call 18; with_reducible refine hN.mono ?_; rintro e w0 ⟨rfl, hx0⟩; have c2 : w0.cell? ⟨d, 2, none⟩ = some (.bool S.off) := (h.out.ext hx0).row.cell (i := 2) (by simp); rw [ho] at c2)
      refine wp_region_sure (fun w' => Ext w0 w') (by kernel_rfl) (ext_drew _) ?_
      refine wpAnyS_go (i := 0) (some 21) (v := ?_) rfl rfl (by kernel_rfl) (by kernel_rfl) (by kernel_rfl) (fun _ _ _ h => h) (.inl ⟨by rfl, fun w hS => ?_⟩) ?_
      rotate_left
      · (try go_simp)
        refine ⟨?_, hS⟩
        with_reducible rfl
      simp only [Act.put, List.setIfInBounds_toArray, List.set_cons_zero, List.set_cons_succ]
      refine wpAnyS_go (i := 1) (some 22) (v := ?_) rfl rfl (by kernel_rfl) (by kernel_rfl) (by kernel_rfl) (fun _ _ _ h => h) (.inl ⟨by rfl, fun w hS => ?_⟩) ?_
      rotate_left
      · (try go_simp)
        refine ⟨?_, hS⟩
        with_reducible rfl
      simp only [Act.put, List.setIfInBounds_toArray, List.set_cons_zero, List.set_cons_succ]
      refine wpAnyS_go (i := 2) (some 23) (v := ?_) rfl rfl (by kernel_rfl) (by kernel_rfl) (by kernel_rfl) (fun _ _ _ h => h) (.inl ⟨by rfl, fun w hS => ?_⟩) ?_
      rotate_left
      · (try go_simp)
        refine ⟨?_, hS⟩
        with_reducible rfl
      simp only [Act.put, List.setIfInBounds_toArray, List.set_cons_zero, List.set_cons_succ]
      refine wpAnyS_go (i := 3) (some 24) (v := ?_) rfl rfl (by kernel_rfl) (by kernel_rfl) (by kernel_rfl) (fun _ _ _ h => h) (.inl ⟨by rfl, fun w hS => ?_⟩) ?_
      rotate_left
      · (try go_simp)
        refine ⟨?_, hS⟩
        with_reducible rfl
      simp only [Act.put, List.setIfInBounds_toArray, List.set_cons_zero, List.set_cons_succ]
      refine wpAnyS_go (i := 4) (some 25) (v := ?_) rfl rfl (by kernel_rfl) (by kernel_rfl) (by kernel_rfl) (fun _ _ _ h => h) (.inl ⟨by rfl, fun w hS => ?_⟩) ?_
      rotate_left
      · (try go_simp)
        refine ⟨?_, hS⟩
        with_reducible rfl
      simp only [Act.put, List.setIfInBounds_toArray, List.set_cons_zero, List.set_cons_succ]
      refine wpAnyS_go (i := 5) (some 26) (v := ?_) rfl rfl (by kernel_rfl) (by kernel_rfl) (by kernel_rfl) (fun _ _ _ h => h) (.inl ⟨by rfl, fun w hS => ?_⟩) ?_
      rotate_left
      · have e0 := (h.out.ext (hx0.trans hS)).row.cell (i := 0) (by simp)
        go_simp
        refine ⟨?_, hS⟩
        with_reducible rfl
      simp only [Act.put, List.setIfInBounds_toArray, List.set_cons_zero, List.set_cons_succ]
      refine wpAnyS_go (i := 6) (some 27) (v := ?_) rfl rfl (by kernel_rfl) (by kernel_rfl) (by kernel_rfl) (fun _ _ _ h => h) (.inl ⟨by rfl, fun w hS => ?_⟩) ?_
      rotate_left
      · (try go_simp)
        refine ⟨?_, hS⟩
        with_reducible rfl
      simp only [Act.put, List.setIfInBounds_toArray, List.set_cons_zero, List.set_cons_succ]
      refine wpAnyS_go (i := 7) (some 28) (v := ?_) rfl rfl (by kernel_rfl) (by kernel_rfl) (by kernel_rfl) (fun _ _ _ h => h) (.inl ⟨by rfl, fun w hS => ?_⟩) ?_
      rotate_left
      · go_simp
        change Calls _ _ _ _ _
        refine Calls.mono (used_any B d mb S L _ (h.out.ext (hx0.trans hS))) ?_
        rintro e w' ⟨rfl, hx⟩
        refine ⟨?_, hS.trans hx⟩
        with_reducible rfl
      simp only [Act.put, List.setIfInBounds_toArray, List.set_cons_zero, List.set_cons_succ]
      refine wpAnyS_go (i := 8) (some 29) (v := ?_) rfl rfl (by kernel_rfl) (by kernel_rfl) (by kernel_rfl) (fun _ _ _ h => h) (.inl ⟨by rfl, fun w hS => ?_⟩) ?_
      rotate_left
      · (try go_simp)
        refine ⟨?_, hS⟩
        with_reducible rfl
      simp only [Act.put, List.setIfInBounds_toArray, List.set_cons_zero, List.set_cons_succ]
      refine wpAnyS_go (i := 9) (some 30) (v := ?_) rfl rfl (by kernel_rfl) (by kernel_rfl) (by kernel_rfl) (fun _ _ _ h => h) (.inl ⟨by rfl, fun w hS => ?_⟩) ?_
      rotate_left
      · (try go_simp)
        refine ⟨?_, hS⟩
        with_reducible rfl
      simp only [Act.put, List.setIfInBounds_toArray, List.set_cons_zero, List.set_cons_succ]
      refine wpAnyS_go (i := 10) (some 20) (v := ?_) rfl rfl (by kernel_rfl) (by kernel_rfl) (by kernel_rfl) (fun _ _ _ h => h) (.inl ⟨by rfl, fun w hS => ?_⟩) ?_
      rotate_left
      · (try go_simp)
        refine ⟨?_, hS⟩
        with_reducible rfl
      simp only [Act.put, List.setIfInBounds_toArray, List.set_cons_zero, List.set_cons_succ]
      refine wpAnyS_done (by kernel_rfl) fun w1 hS1 => ?_
      go_wp2
      exact hg.out _ (hx0.trans hS1)
end Go.Proofs.YtkgnaabmcboffaaDoor
